/-
  DERIVED. GIVEN WITH THE SEED: THE CARDS: each row of YtdidengokijcjaaDoorRows.lean that lists a variable, with what it lists TIED to the program's text (the seventh form; the later family's looks); each row that meets fmt, with fmt's text TOLD by the authors' own Lean function (tested against real Go, not proved from fmt's source: count such statements apart). THE CARD IS WHAT COUNTS. Prove the row's statement (the work); the ties are given (YtdidengokijcjaaDoorTie.lean); close each card by the builder's one call (the guide's Derived/Test/ToyasCard.lean, 'card_holds'). Laid BY PROGRAM, IN A SANDBOX (cutbox-door.mjs). By AI agents, Wed Nov 11 2026. No macro, syntax, notation, axiom, sorry.
-/
import Derived.Test.YtdidengokijcjaaDoorRows
import GoSem.ClaimSeven
namespace Go.Proofs.YtdidengokijcjaaDoor
namespace Rows

/-- THE TIED CARD OF 'alluviumlaw11.ChunkPuts'. -/
def chunkPutsCard : Claim7 := { stood := { row := chunkPutsRow, standIns := [], harness := (true, "e9ad9ba9cd7a59d1727d266b1050144e95ac6644f454169a8ec301eb4ba53f74"), looks := false }, kinds := [], alts := [], laidByText := true, laidKinds := [.data], laidTests := true, laidLooks := .later }
def ChunkPutsCardSaid : Prop := Claim7.holds Tryd.pinned (.plain (OpenSpec.ofChange chunkPutsSpec)) chunkPutsCard

/-- THE TIED CARD OF 'alluviumlaw11.ChunkBack'. -/
def chunkBackCard : Claim7 := { stood := { row := chunkBackRow, standIns := [], harness := (true, "e9ad9ba9cd7a59d1727d266b1050144e95ac6644f454169a8ec301eb4ba53f74"), looks := false }, kinds := [], alts := [], laidByText := true, laidKinds := [.data], laidTests := true, laidLooks := .later }
def ChunkBackCardSaid : Prop := Claim7.holds Tryd.pinned (.plain (OpenSpec.ofChange chunkBackSpec)) chunkBackCard

/-- THE TIED CARD OF 'alluviumlaw11.ChunkSmallest'. -/
def chunkSmallestCard : Claim7 := { stood := { row := chunkSmallestRow, standIns := [], harness := (true, "e9ad9ba9cd7a59d1727d266b1050144e95ac6644f454169a8ec301eb4ba53f74"), looks := false }, kinds := [], alts := [], laidByText := true, laidKinds := [.data], laidTests := true, laidLooks := .later }
def ChunkSmallestCardSaid : Prop := Claim7.holds Tryd.pinned (.plain (OpenSpec.ofChange chunkSmallestSpec)) chunkSmallestCard

/-- THE TIED CARD OF 'alluviumlaw11.ChunkSizes'. -/
def chunkSizesCard : Claim7 := { stood := { row := chunkSizesRow, standIns := [], harness := (true, "e9ad9ba9cd7a59d1727d266b1050144e95ac6644f454169a8ec301eb4ba53f74"), looks := false }, kinds := [], alts := [], laidByText := true, laidKinds := [.data], laidTests := true, laidLooks := .later }
def ChunkSizesCardSaid : Prop := Claim7.holds Tryd.pinned (.plain (OpenSpec.ofChange chunkSizesSpec)) chunkSizesCard

/-- THE TIED CARD OF 'alluviumlaw11.ChunkApart'. -/
def chunkApartCard : Claim7 := { stood := { row := chunkApartRow, standIns := [], harness := (true, "e9ad9ba9cd7a59d1727d266b1050144e95ac6644f454169a8ec301eb4ba53f74"), looks := false }, kinds := [], alts := [], laidByText := true, laidKinds := [.data], laidTests := true, laidLooks := .later }
def ChunkApartCardSaid : Prop := Claim7.holds Tryd.pinned (.plain (OpenSpec.ofChange chunkApartSpec)) chunkApartCard

/-- THE SECOND FORM's CARD OF 'alluviumlaw11.ChunkPuts'. -/
def chunkPutsUptoCard : Claim7 := { stood := { row := chunkPutsUptoRow, standIns := [], harness := (true, "e9ad9ba9cd7a59d1727d266b1050144e95ac6644f454169a8ec301eb4ba53f74"), looks := false }, kinds := [], alts := [], laidByText := true, laidKinds := [.data], laidTests := true, laidLooks := .later }
def ChunkPutsUptoCardSaid : Prop := Claim7.holds Tryd.pinned (.plain (OpenSpec.upto chunkPutsSpec)) chunkPutsUptoCard

/-- THE SECOND FORM's CARD OF 'alluviumlaw11.ChunkBack'. -/
def chunkBackUptoCard : Claim7 := { stood := { row := chunkBackUptoRow, standIns := [], harness := (true, "e9ad9ba9cd7a59d1727d266b1050144e95ac6644f454169a8ec301eb4ba53f74"), looks := false }, kinds := [], alts := [], laidByText := true, laidKinds := [.data], laidTests := true, laidLooks := .later }
def ChunkBackUptoCardSaid : Prop := Claim7.holds Tryd.pinned (.plain (OpenSpec.upto chunkBackSpec)) chunkBackUptoCard

/-- THE SECOND FORM's CARD OF 'alluviumlaw11.ChunkSmallest'. -/
def chunkSmallestUptoCard : Claim7 := { stood := { row := chunkSmallestUptoRow, standIns := [], harness := (true, "e9ad9ba9cd7a59d1727d266b1050144e95ac6644f454169a8ec301eb4ba53f74"), looks := false }, kinds := [], alts := [], laidByText := true, laidKinds := [.data], laidTests := true, laidLooks := .later }
def ChunkSmallestUptoCardSaid : Prop := Claim7.holds Tryd.pinned (.plain (OpenSpec.upto chunkSmallestSpec)) chunkSmallestUptoCard

/-- THE SECOND FORM's CARD OF 'alluviumlaw11.ChunkSizes'. -/
def chunkSizesUptoCard : Claim7 := { stood := { row := chunkSizesUptoRow, standIns := [], harness := (true, "e9ad9ba9cd7a59d1727d266b1050144e95ac6644f454169a8ec301eb4ba53f74"), looks := false }, kinds := [], alts := [], laidByText := true, laidKinds := [.data], laidTests := true, laidLooks := .later }
def ChunkSizesUptoCardSaid : Prop := Claim7.holds Tryd.pinned (.plain (OpenSpec.upto chunkSizesSpec)) chunkSizesUptoCard

/-- THE SECOND FORM's CARD OF 'alluviumlaw11.ChunkApart'. -/
def chunkApartUptoCard : Claim7 := { stood := { row := chunkApartUptoRow, standIns := [], harness := (true, "e9ad9ba9cd7a59d1727d266b1050144e95ac6644f454169a8ec301eb4ba53f74"), looks := false }, kinds := [], alts := [], laidByText := true, laidKinds := [.data], laidTests := true, laidLooks := .later }
def ChunkApartUptoCardSaid : Prop := Claim7.holds Tryd.pinned (.plain (OpenSpec.upto chunkApartSpec)) chunkApartUptoCard
end Rows
end Go.Proofs.YtdidengokijcjaaDoor
