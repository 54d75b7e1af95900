/-
  DERIVED. GIVEN WITH THE SEED: THE CARDS: each row of YtpcpfjpcfcbopaaDoorRows.lean that lists a variable, with what it lists TIED to the program's text (the seventh form; the later family's looks); each row that meets fmt, with fmt's text TOLD by the authors' own Lean function (tested against real Go, not proved from fmt's source: count such statements apart). THE CARD IS WHAT COUNTS. Prove the row's statement (the work); the ties are given (YtpcpfjpcfcbopaaDoorTie.lean); close each card by the builder's one call (the guide's Derived/Test/ToyasCard.lean, 'card_holds'). Laid BY PROGRAM, IN A SANDBOX (cutbox-door.mjs). By AI agents, Wed Nov 11 2026. No macro, syntax, notation, axiom, sorry.
-/
import Derived.Test.YtpcpfjpcfcbopaaDoorRows
import GoSem.ClaimSeven
namespace Go.Proofs.YtpcpfjpcfcbopaaDoor
namespace Rows

/-- THE TIED CARD OF 'limnographlaw35.IndexRows'. -/
def indexRowsCard : Claim7 := { stood := { row := indexRowsRow, standIns := [], harness := (true, "654a2807c9c9a26a8efdef7a891824db3ed52dba1918bddb7ed78f4f4dc38024"), looks := false }, kinds := [], alts := [], laidByText := true, laidKinds := [.data], laidTests := true, laidLooks := .later }
def IndexRowsCardSaid : Prop := Claim7.holds Tryd.pinned (.plain (OpenSpec.ofChange indexRowsSpec)) indexRowsCard

/-- THE TIED CARD OF 'limnographlaw35.IndexParts'. -/
def indexPartsCard : Claim7 := { stood := { row := indexPartsRow, standIns := [], harness := (true, "654a2807c9c9a26a8efdef7a891824db3ed52dba1918bddb7ed78f4f4dc38024"), looks := false }, kinds := [], alts := [], laidByText := true, laidKinds := [.data], laidTests := true, laidLooks := .later }
def IndexPartsCardSaid : Prop := Claim7.holds Tryd.pinned (.plain (OpenSpec.ofChange indexPartsSpec)) indexPartsCard

/-- THE SECOND FORM's CARD OF 'limnographlaw35.IndexRows'. -/
def indexRowsUptoCard : Claim7 := { stood := { row := indexRowsUptoRow, standIns := [], harness := (true, "654a2807c9c9a26a8efdef7a891824db3ed52dba1918bddb7ed78f4f4dc38024"), looks := false }, kinds := [], alts := [], laidByText := true, laidKinds := [.data], laidTests := true, laidLooks := .later }
def IndexRowsUptoCardSaid : Prop := Claim7.holds Tryd.pinned (.plain (OpenSpec.upto indexRowsSpec)) indexRowsUptoCard

/-- THE SECOND FORM's CARD OF 'limnographlaw35.IndexParts'. -/
def indexPartsUptoCard : Claim7 := { stood := { row := indexPartsUptoRow, standIns := [], harness := (true, "654a2807c9c9a26a8efdef7a891824db3ed52dba1918bddb7ed78f4f4dc38024"), looks := false }, kinds := [], alts := [], laidByText := true, laidKinds := [.data], laidTests := true, laidLooks := .later }
def IndexPartsUptoCardSaid : Prop := Claim7.holds Tryd.pinned (.plain (OpenSpec.upto indexPartsSpec)) indexPartsUptoCard
end Rows
end Go.Proofs.YtpcpfjpcfcbopaaDoor
