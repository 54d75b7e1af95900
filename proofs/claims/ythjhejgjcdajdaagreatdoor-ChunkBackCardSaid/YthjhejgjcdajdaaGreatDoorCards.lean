/-
  DERIVED. GIVEN WITH THE SEED: THE CARDS: each row of YthjhejgjcdajdaaGreatDoorRows.lean that lists a variable, with what it lists TIED to the program's text (the seventh form; the later family's looks); each row that meets fmt, with fmt's text TOLD by the authors' own Lean function (tested against real Go, not proved from fmt's source: count such statements apart). THE CARD IS WHAT COUNTS. Prove the row's statement (the work); the ties are given (YthjhejgjcdajdaaGreatDoorTie.lean); close each card by the builder's one call (the guide's Derived/Test/ToyasCard.lean, 'card_holds'). Laid BY PROGRAM, IN A SANDBOX (cutbox-door.mjs). By AI agents, Wed Nov 11 2026. No macro, syntax, notation, axiom, sorry.
-/
import Derived.Test.YthjhejgjcdajdaaGreatDoorRows
import GoSem.ClaimSeven
namespace Go.Proofs.YthjhejgjcdajdaaGreatDoor
namespace Rows

/-- THE TIED CARD OF 'limnographlaw13.ChunkReads'. -/
def chunkReadsCard : Claim7 := { stood := { row := chunkReadsRow, standIns := [], harness := (true, "e9b3fb07afedc5740d296b4d5eb01358438e92b07831f125b1e73d76a72a09b2"), looks := false }, kinds := [], alts := [], laidByText := true, laidKinds := [.data, .data], laidTests := true, laidLooks := .later }
def ChunkReadsCardSaid : Prop := Claim7.holds Tryz.pinned (.plain (OpenSpec.ofChange chunkReadsSpec)) chunkReadsCard

/-- THE TIED CARD OF 'limnographlaw13.ChunkBack'. -/
def chunkBackCard : Claim7 := { stood := { row := chunkBackRow, standIns := [], harness := (true, "e9b3fb07afedc5740d296b4d5eb01358438e92b07831f125b1e73d76a72a09b2"), looks := false }, kinds := [], alts := [], laidByText := true, laidKinds := [.data, .data], laidTests := true, laidLooks := .later }
def ChunkBackCardSaid : Prop := Claim7.holds Tryz.pinned (.plain (OpenSpec.ofChange chunkBackSpec)) chunkBackCard

/-- THE TIED CARD OF 'limnographlaw13.ChunkSeries'. -/
def chunkSeriesCard : Claim7 := { stood := { row := chunkSeriesRow, standIns := [], harness := (true, "e9b3fb07afedc5740d296b4d5eb01358438e92b07831f125b1e73d76a72a09b2"), looks := false }, kinds := [], alts := [], laidByText := true, laidKinds := [.data, .data], laidTests := true, laidLooks := .later }
def ChunkSeriesCardSaid : Prop := Claim7.holds Tryz.pinned (.plain (OpenSpec.ofChange chunkSeriesSpec)) chunkSeriesCard

/-- THE TIED CARD OF 'limnographlaw13.ChunkMost'. -/
def chunkMostCard : Claim7 := { stood := { row := chunkMostRow, standIns := [], harness := (true, "e9b3fb07afedc5740d296b4d5eb01358438e92b07831f125b1e73d76a72a09b2"), looks := false }, kinds := [], alts := [], laidByText := true, laidKinds := [.data, .data], laidTests := true, laidLooks := .later }
def ChunkMostCardSaid : Prop := Claim7.holds Tryz.pinned (.plain (OpenSpec.ofChange chunkMostSpec)) chunkMostCard

/-- THE TIED CARD OF 'limnographlaw13.ChunkAdds'. -/
def chunkAddsCard : Claim7 := { stood := { row := chunkAddsRow, standIns := [], harness := (true, "e9b3fb07afedc5740d296b4d5eb01358438e92b07831f125b1e73d76a72a09b2"), looks := false }, kinds := [], alts := [], laidByText := true, laidKinds := [.data, .data], laidTests := true, laidLooks := .later }
def ChunkAddsCardSaid : Prop := Claim7.holds Tryz.pinned (.plain (OpenSpec.ofChange chunkAddsSpec)) chunkAddsCard

/-- THE SECOND FORM's CARD OF 'limnographlaw13.ChunkReads'. -/
def chunkReadsUptoCard : Claim7 := { stood := { row := chunkReadsUptoRow, standIns := [], harness := (true, "e9b3fb07afedc5740d296b4d5eb01358438e92b07831f125b1e73d76a72a09b2"), looks := false }, kinds := [], alts := [], laidByText := true, laidKinds := [.data, .data], laidTests := true, laidLooks := .later }
def ChunkReadsUptoCardSaid : Prop := Claim7.holds Tryz.pinned (.plain (OpenSpec.upto chunkReadsSpec)) chunkReadsUptoCard

/-- THE SECOND FORM's CARD OF 'limnographlaw13.ChunkBack'. -/
def chunkBackUptoCard : Claim7 := { stood := { row := chunkBackUptoRow, standIns := [], harness := (true, "e9b3fb07afedc5740d296b4d5eb01358438e92b07831f125b1e73d76a72a09b2"), looks := false }, kinds := [], alts := [], laidByText := true, laidKinds := [.data, .data], laidTests := true, laidLooks := .later }
def ChunkBackUptoCardSaid : Prop := Claim7.holds Tryz.pinned (.plain (OpenSpec.upto chunkBackSpec)) chunkBackUptoCard

/-- THE SECOND FORM's CARD OF 'limnographlaw13.ChunkSeries'. -/
def chunkSeriesUptoCard : Claim7 := { stood := { row := chunkSeriesUptoRow, standIns := [], harness := (true, "e9b3fb07afedc5740d296b4d5eb01358438e92b07831f125b1e73d76a72a09b2"), looks := false }, kinds := [], alts := [], laidByText := true, laidKinds := [.data, .data], laidTests := true, laidLooks := .later }
def ChunkSeriesUptoCardSaid : Prop := Claim7.holds Tryz.pinned (.plain (OpenSpec.upto chunkSeriesSpec)) chunkSeriesUptoCard

/-- THE SECOND FORM's CARD OF 'limnographlaw13.ChunkMost'. -/
def chunkMostUptoCard : Claim7 := { stood := { row := chunkMostUptoRow, standIns := [], harness := (true, "e9b3fb07afedc5740d296b4d5eb01358438e92b07831f125b1e73d76a72a09b2"), looks := false }, kinds := [], alts := [], laidByText := true, laidKinds := [.data, .data], laidTests := true, laidLooks := .later }
def ChunkMostUptoCardSaid : Prop := Claim7.holds Tryz.pinned (.plain (OpenSpec.upto chunkMostSpec)) chunkMostUptoCard

/-- THE SECOND FORM's CARD OF 'limnographlaw13.ChunkAdds'. -/
def chunkAddsUptoCard : Claim7 := { stood := { row := chunkAddsUptoRow, standIns := [], harness := (true, "e9b3fb07afedc5740d296b4d5eb01358438e92b07831f125b1e73d76a72a09b2"), looks := false }, kinds := [], alts := [], laidByText := true, laidKinds := [.data, .data], laidTests := true, laidLooks := .later }
def ChunkAddsUptoCardSaid : Prop := Claim7.holds Tryz.pinned (.plain (OpenSpec.upto chunkAddsSpec)) chunkAddsUptoCard
end Rows
end Go.Proofs.YthjhejgjcdajdaaGreatDoor
