/-
  DERIVED. GIVEN WITH THE SEED: THE CARDS: each row of YtffboddbdpagkaaGreatDoorRows.lean that lists a variable, with what it lists TIED to the program's text (the seventh form; the later family's looks); each row that meets fmt, with fmt's text TOLD by the authors' own Lean function (tested against real Go, not proved from fmt's source: count such statements apart). THE CARD IS WHAT COUNTS. Prove the row's statement (the work); the ties are given (YtffboddbdpagkaaGreatDoorTie.lean); close each card by the builder's one call (the guide's Derived/Test/ToyasCard.lean, 'card_holds'). Laid BY PROGRAM, IN A SANDBOX (cutbox-door.mjs). By AI agents, Wed Nov 11 2026. No macro, syntax, notation, axiom, sorry.
-/
import Derived.Test.YtffboddbdpagkaaGreatDoorRows
import GoSem.ClaimSeven
namespace Go.Proofs.YtffboddbdpagkaaGreatDoor
namespace Rows

/-- THE TIED CARD OF 'limnographlaw37.QueryRuns'. -/
def queryRunsCard : Claim7 := { stood := { row := queryRunsRow, standIns := [], harness := (true, "651b924c2d78c73309521dc952cb083baa457a74cc2e6fad920d532123c3f328"), looks := false }, kinds := [], alts := [], laidByText := true, laidKinds := [.data], laidTests := true, laidLooks := .later }
def QueryRunsCardSaid : Prop := Claim7.holds Tryz.pinned (.plain (OpenSpec.ofChange queryRunsSpec)) queryRunsCard

/-- THE TIED CARD OF 'limnographlaw37.QueryNth'. -/
def queryNthCard : Claim7 := { stood := { row := queryNthRow, standIns := [], harness := (true, "651b924c2d78c73309521dc952cb083baa457a74cc2e6fad920d532123c3f328"), looks := false }, kinds := [], alts := [], laidByText := true, laidKinds := [.data], laidTests := true, laidLooks := .later }
def QueryNthCardSaid : Prop := Claim7.holds Tryz.pinned (.plain (OpenSpec.ofChange queryNthSpec)) queryNthCard

/-- THE TIED CARD OF 'limnographlaw37.QueryBelow'. -/
def queryBelowCard : Claim7 := { stood := { row := queryBelowRow, standIns := [], harness := (true, "651b924c2d78c73309521dc952cb083baa457a74cc2e6fad920d532123c3f328"), looks := false }, kinds := [], alts := [], laidByText := true, laidKinds := [.data], laidTests := true, laidLooks := .later }
def QueryBelowCardSaid : Prop := Claim7.holds Tryz.pinned (.plain (OpenSpec.ofChange queryBelowSpec)) queryBelowCard

/-- THE TIED CARD OF 'limnographlaw37.QueryParts'. -/
def queryPartsCard : Claim7 := { stood := { row := queryPartsRow, standIns := [], harness := (true, "651b924c2d78c73309521dc952cb083baa457a74cc2e6fad920d532123c3f328"), looks := false }, kinds := [], alts := [], laidByText := true, laidKinds := [.data], laidTests := true, laidLooks := .later }
def QueryPartsCardSaid : Prop := Claim7.holds Tryz.pinned (.plain (OpenSpec.ofChange queryPartsSpec)) queryPartsCard

/-- THE SECOND FORM's CARD OF 'limnographlaw37.QueryRuns'. -/
def queryRunsUptoCard : Claim7 := { stood := { row := queryRunsUptoRow, standIns := [], harness := (true, "651b924c2d78c73309521dc952cb083baa457a74cc2e6fad920d532123c3f328"), looks := false }, kinds := [], alts := [], laidByText := true, laidKinds := [.data], laidTests := true, laidLooks := .later }
def QueryRunsUptoCardSaid : Prop := Claim7.holds Tryz.pinned (.plain (OpenSpec.upto queryRunsSpec)) queryRunsUptoCard

/-- THE SECOND FORM's CARD OF 'limnographlaw37.QueryNth'. -/
def queryNthUptoCard : Claim7 := { stood := { row := queryNthUptoRow, standIns := [], harness := (true, "651b924c2d78c73309521dc952cb083baa457a74cc2e6fad920d532123c3f328"), looks := false }, kinds := [], alts := [], laidByText := true, laidKinds := [.data], laidTests := true, laidLooks := .later }
def QueryNthUptoCardSaid : Prop := Claim7.holds Tryz.pinned (.plain (OpenSpec.upto queryNthSpec)) queryNthUptoCard

/-- THE SECOND FORM's CARD OF 'limnographlaw37.QueryBelow'. -/
def queryBelowUptoCard : Claim7 := { stood := { row := queryBelowUptoRow, standIns := [], harness := (true, "651b924c2d78c73309521dc952cb083baa457a74cc2e6fad920d532123c3f328"), looks := false }, kinds := [], alts := [], laidByText := true, laidKinds := [.data], laidTests := true, laidLooks := .later }
def QueryBelowUptoCardSaid : Prop := Claim7.holds Tryz.pinned (.plain (OpenSpec.upto queryBelowSpec)) queryBelowUptoCard

/-- THE SECOND FORM's CARD OF 'limnographlaw37.QueryParts'. -/
def queryPartsUptoCard : Claim7 := { stood := { row := queryPartsUptoRow, standIns := [], harness := (true, "651b924c2d78c73309521dc952cb083baa457a74cc2e6fad920d532123c3f328"), looks := false }, kinds := [], alts := [], laidByText := true, laidKinds := [.data], laidTests := true, laidLooks := .later }
def QueryPartsUptoCardSaid : Prop := Claim7.holds Tryz.pinned (.plain (OpenSpec.upto queryPartsSpec)) queryPartsUptoCard
end Rows
end Go.Proofs.YtffboddbdpagkaaGreatDoor
