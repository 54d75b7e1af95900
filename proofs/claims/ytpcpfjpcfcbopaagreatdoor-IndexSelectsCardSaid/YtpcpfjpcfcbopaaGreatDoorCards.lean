/-
  DERIVED. GIVEN WITH THE SEED: THE CARDS: each row of YtpcpfjpcfcbopaaGreatDoorRows.lean that lists a variable, with what it lists TIED to the program's text (the seventh form; the later family's looks); each row that meets fmt, with fmt's text TOLD by the authors' own Lean function (tested against real Go, not proved from fmt's source: count such statements apart). THE CARD IS WHAT COUNTS. Prove the row's statement (the work); the ties are given (YtpcpfjpcfcbopaaGreatDoorTie.lean); close each card by the builder's one call (the guide's Derived/Test/ToyasCard.lean, 'card_holds'). Laid BY PROGRAM, IN A SANDBOX (cutbox-door.mjs). By AI agents, Wed Nov 11 2026. No macro, syntax, notation, axiom, sorry.
-/
import Derived.Test.YtpcpfjpcfcbopaaGreatDoorRows
import GoSem.ClaimSeven
namespace Go.Proofs.YtpcpfjpcfcbopaaGreatDoor
namespace Rows

/-- THE TIED CARD OF 'limnographlaw35.IndexSelects'. -/
def indexSelectsCard : Claim7 := { stood := { row := indexSelectsRow, standIns := [], harness := (true, "e4cda57abafc2d3a85e61e8db845b5e1a461edb7b86ed2294215204bedd94d58"), looks := false }, kinds := [], alts := [], laidByText := true, laidKinds := [.data], laidTests := true, laidLooks := .later }
def IndexSelectsCardSaid : Prop := Claim7.holds Tryz.pinned (.plain (OpenSpec.ofChange indexSelectsSpec)) indexSelectsCard

/-- THE TIED CARD OF 'limnographlaw35.IndexNew'. -/
def indexNewCard : Claim7 := { stood := { row := indexNewRow, standIns := [], harness := (true, "e4cda57abafc2d3a85e61e8db845b5e1a461edb7b86ed2294215204bedd94d58"), looks := false }, kinds := [], alts := [], laidByText := true, laidKinds := [.data], laidTests := true, laidLooks := .later }
def IndexNewCardSaid : Prop := Claim7.holds Tryz.pinned (.plain (OpenSpec.ofChange indexNewSpec)) indexNewCard

/-- THE SECOND FORM's CARD OF 'limnographlaw35.IndexSelects'. -/
def indexSelectsUptoCard : Claim7 := { stood := { row := indexSelectsUptoRow, standIns := [], harness := (true, "e4cda57abafc2d3a85e61e8db845b5e1a461edb7b86ed2294215204bedd94d58"), looks := false }, kinds := [], alts := [], laidByText := true, laidKinds := [.data], laidTests := true, laidLooks := .later }
def IndexSelectsUptoCardSaid : Prop := Claim7.holds Tryz.pinned (.plain (OpenSpec.upto indexSelectsSpec)) indexSelectsUptoCard

/-- THE SECOND FORM's CARD OF 'limnographlaw35.IndexNew'. -/
def indexNewUptoCard : Claim7 := { stood := { row := indexNewUptoRow, standIns := [], harness := (true, "e4cda57abafc2d3a85e61e8db845b5e1a461edb7b86ed2294215204bedd94d58"), looks := false }, kinds := [], alts := [], laidByText := true, laidKinds := [.data], laidTests := true, laidLooks := .later }
def IndexNewUptoCardSaid : Prop := Claim7.holds Tryz.pinned (.plain (OpenSpec.upto indexNewSpec)) indexNewUptoCard
end Rows
end Go.Proofs.YtpcpfjpcfcbopaaGreatDoor
