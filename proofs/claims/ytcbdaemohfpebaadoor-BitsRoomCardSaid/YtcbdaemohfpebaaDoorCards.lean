/-
  DERIVED. GIVEN WITH THE SEED: THE CARDS: each row of YtcbdaemohfpebaaDoorRows.lean that lists a variable, with what it lists TIED to the program's text (the seventh form; the later family's looks); each row that meets fmt, with fmt's text TOLD by the authors' own Lean function (tested against real Go, not proved from fmt's source: count such statements apart). THE CARD IS WHAT COUNTS. Prove the row's statement (the work); the ties are given (YtcbdaemohfpebaaDoorTie.lean); close each card by the builder's one call (the guide's Derived/Test/ToyasCard.lean, 'card_holds'). Laid BY PROGRAM, IN A SANDBOX (cutbox-door.mjs). By AI agents, Wed Nov 11 2026. No macro, syntax, notation, axiom, sorry.
-/
import Derived.Test.YtcbdaemohfpebaaDoorRows
import GoSem.ClaimSeven
namespace Go.Proofs.YtcbdaemohfpebaaDoor
namespace Rows

/-- THE TIED CARD OF 'alluviumlaw02.BitsPuts'. -/
def bitsPutsCard : Claim7 := { stood := { row := bitsPutsRow, standIns := [], harness := (true, "f3e485e63ec1636bd309b9274f6c171ab930fe5a7cb7f97ce4627a8341b52fa1"), looks := false }, kinds := [], alts := [], laidByText := true, laidKinds := [.data], laidTests := true, laidLooks := .later }
def BitsPutsCardSaid : Prop := Claim7.holds Tryd.pinned (.plain (OpenSpec.ofChange bitsPutsSpec)) bitsPutsCard

/-- THE TIED CARD OF 'alluviumlaw02.BitsGets'. -/
def bitsGetsCard : Claim7 := { stood := { row := bitsGetsRow, standIns := [], harness := (true, "f3e485e63ec1636bd309b9274f6c171ab930fe5a7cb7f97ce4627a8341b52fa1"), looks := false }, kinds := [], alts := [], laidByText := true, laidKinds := [.data], laidTests := true, laidLooks := .later }
def BitsGetsCardSaid : Prop := Claim7.holds Tryd.pinned (.plain (OpenSpec.ofChange bitsGetsSpec)) bitsGetsCard

/-- THE TIED CARD OF 'alluviumlaw02.BitsCounts'. -/
def bitsCountsCard : Claim7 := { stood := { row := bitsCountsRow, standIns := [], harness := (true, "f3e485e63ec1636bd309b9274f6c171ab930fe5a7cb7f97ce4627a8341b52fa1"), looks := false }, kinds := [], alts := [], laidByText := true, laidKinds := [.data], laidTests := true, laidLooks := .later }
def BitsCountsCardSaid : Prop := Claim7.holds Tryd.pinned (.plain (OpenSpec.ofChange bitsCountsSpec)) bitsCountsCard

/-- THE TIED CARD OF 'alluviumlaw02.BitsBack'. -/
def bitsBackCard : Claim7 := { stood := { row := bitsBackRow, standIns := [], harness := (true, "f3e485e63ec1636bd309b9274f6c171ab930fe5a7cb7f97ce4627a8341b52fa1"), looks := false }, kinds := [], alts := [], laidByText := true, laidKinds := [.data], laidTests := true, laidLooks := .later }
def BitsBackCardSaid : Prop := Claim7.holds Tryd.pinned (.plain (OpenSpec.ofChange bitsBackSpec)) bitsBackCard

/-- THE TIED CARD OF 'alluviumlaw02.BitsJoin'. -/
def bitsJoinCard : Claim7 := { stood := { row := bitsJoinRow, standIns := [], harness := (true, "f3e485e63ec1636bd309b9274f6c171ab930fe5a7cb7f97ce4627a8341b52fa1"), looks := false }, kinds := [], alts := [], laidByText := true, laidKinds := [.data], laidTests := true, laidLooks := .later }
def BitsJoinCardSaid : Prop := Claim7.holds Tryd.pinned (.plain (OpenSpec.ofChange bitsJoinSpec)) bitsJoinCard

/-- THE TIED CARD OF 'alluviumlaw02.BitsRoom'. -/
def bitsRoomCard : Claim7 := { stood := { row := bitsRoomRow, standIns := [], harness := (true, "f3e485e63ec1636bd309b9274f6c171ab930fe5a7cb7f97ce4627a8341b52fa1"), looks := false }, kinds := [], alts := [], laidByText := true, laidKinds := [.data], laidTests := true, laidLooks := .later }
def BitsRoomCardSaid : Prop := Claim7.holds Tryd.pinned (.plain (OpenSpec.ofChange bitsRoomSpec)) bitsRoomCard

/-- THE TIED CARD OF 'alluviumlaw05.ValueAll'. -/
def valueAllCard : Claim7 := { stood := { row := valueAllRow, standIns := [], harness := (true, "f3e485e63ec1636bd309b9274f6c171ab930fe5a7cb7f97ce4627a8341b52fa1"), looks := false }, kinds := [], alts := [], laidByText := true, laidKinds := [.data], laidTests := true, laidLooks := .later }
def ValueAllCardSaid : Prop := Claim7.holds Tryd.pinned (.plain (OpenSpec.ofChange valueAllSpec)) valueAllCard

/-- THE TIED CARD OF 'alluviumlaw05.ValueBack'. -/
def valueBackCard : Claim7 := { stood := { row := valueBackRow, standIns := [], harness := (true, "f3e485e63ec1636bd309b9274f6c171ab930fe5a7cb7f97ce4627a8341b52fa1"), looks := false }, kinds := [], alts := [], laidByText := true, laidKinds := [.data], laidTests := true, laidLooks := .later }
def ValueBackCardSaid : Prop := Claim7.holds Tryd.pinned (.plain (OpenSpec.ofChange valueBackSpec)) valueBackCard

/-- THE TIED CARD OF 'alluviumlaw05.ValueStays'. -/
def valueStaysCard : Claim7 := { stood := { row := valueStaysRow, standIns := [], harness := (true, "f3e485e63ec1636bd309b9274f6c171ab930fe5a7cb7f97ce4627a8341b52fa1"), looks := false }, kinds := [], alts := [], laidByText := true, laidKinds := [.data], laidTests := true, laidLooks := .later }
def ValueStaysCardSaid : Prop := Claim7.holds Tryd.pinned (.plain (OpenSpec.ofChange valueStaysSpec)) valueStaysCard

/-- THE TIED CARD OF 'alluviumlaw05.ValueTurned'. -/
def valueTurnedCard : Claim7 := { stood := { row := valueTurnedRow, standIns := [], harness := (true, "f3e485e63ec1636bd309b9274f6c171ab930fe5a7cb7f97ce4627a8341b52fa1"), looks := false }, kinds := [], alts := [], laidByText := true, laidKinds := [.data], laidTests := true, laidLooks := .later }
def ValueTurnedCardSaid : Prop := Claim7.holds Tryd.pinned (.plain (OpenSpec.ofChange valueTurnedSpec)) valueTurnedCard

/-- THE TIED CARD OF 'alluviumlaw05.ValueSteady'. -/
def valueSteadyCard : Claim7 := { stood := { row := valueSteadyRow, standIns := [], harness := (true, "f3e485e63ec1636bd309b9274f6c171ab930fe5a7cb7f97ce4627a8341b52fa1"), looks := false }, kinds := [], alts := [], laidByText := true, laidKinds := [.data], laidTests := true, laidLooks := .later }
def ValueSteadyCardSaid : Prop := Claim7.holds Tryd.pinned (.plain (OpenSpec.ofChange valueSteadySpec)) valueSteadyCard

/-- THE TIED CARD OF 'alluviumlaw11.ChunkPuts'. -/
def chunkPutsCard : Claim7 := { stood := { row := chunkPutsRow, standIns := [], harness := (true, "f3e485e63ec1636bd309b9274f6c171ab930fe5a7cb7f97ce4627a8341b52fa1"), looks := false }, kinds := [], alts := [], laidByText := true, laidKinds := [.data], laidTests := true, laidLooks := .later }
def ChunkPutsCardSaid : Prop := Claim7.holds Tryd.pinned (.plain (OpenSpec.ofChange chunkPutsSpec)) chunkPutsCard

/-- THE TIED CARD OF 'alluviumlaw11.ChunkBack'. -/
def chunkBackCard : Claim7 := { stood := { row := chunkBackRow, standIns := [], harness := (true, "f3e485e63ec1636bd309b9274f6c171ab930fe5a7cb7f97ce4627a8341b52fa1"), looks := false }, kinds := [], alts := [], laidByText := true, laidKinds := [.data], laidTests := true, laidLooks := .later }
def ChunkBackCardSaid : Prop := Claim7.holds Tryd.pinned (.plain (OpenSpec.ofChange chunkBackSpec)) chunkBackCard

/-- THE TIED CARD OF 'alluviumlaw11.ChunkSmallest'. -/
def chunkSmallestCard : Claim7 := { stood := { row := chunkSmallestRow, standIns := [], harness := (true, "f3e485e63ec1636bd309b9274f6c171ab930fe5a7cb7f97ce4627a8341b52fa1"), looks := false }, kinds := [], alts := [], laidByText := true, laidKinds := [.data], laidTests := true, laidLooks := .later }
def ChunkSmallestCardSaid : Prop := Claim7.holds Tryd.pinned (.plain (OpenSpec.ofChange chunkSmallestSpec)) chunkSmallestCard

/-- THE TIED CARD OF 'alluviumlaw11.ChunkSizes'. -/
def chunkSizesCard : Claim7 := { stood := { row := chunkSizesRow, standIns := [], harness := (true, "f3e485e63ec1636bd309b9274f6c171ab930fe5a7cb7f97ce4627a8341b52fa1"), looks := false }, kinds := [], alts := [], laidByText := true, laidKinds := [.data], laidTests := true, laidLooks := .later }
def ChunkSizesCardSaid : Prop := Claim7.holds Tryd.pinned (.plain (OpenSpec.ofChange chunkSizesSpec)) chunkSizesCard

/-- THE TIED CARD OF 'alluviumlaw11.ChunkApart'. -/
def chunkApartCard : Claim7 := { stood := { row := chunkApartRow, standIns := [], harness := (true, "f3e485e63ec1636bd309b9274f6c171ab930fe5a7cb7f97ce4627a8341b52fa1"), looks := false }, kinds := [], alts := [], laidByText := true, laidKinds := [.data], laidTests := true, laidLooks := .later }
def ChunkApartCardSaid : Prop := Claim7.holds Tryd.pinned (.plain (OpenSpec.ofChange chunkApartSpec)) chunkApartCard

/-- THE SECOND FORM's CARD OF 'alluviumlaw02.BitsPuts'. -/
def bitsPutsUptoCard : Claim7 := { stood := { row := bitsPutsUptoRow, standIns := [], harness := (true, "f3e485e63ec1636bd309b9274f6c171ab930fe5a7cb7f97ce4627a8341b52fa1"), looks := false }, kinds := [], alts := [], laidByText := true, laidKinds := [.data], laidTests := true, laidLooks := .later }
def BitsPutsUptoCardSaid : Prop := Claim7.holds Tryd.pinned (.plain (OpenSpec.upto bitsPutsSpec)) bitsPutsUptoCard

/-- THE SECOND FORM's CARD OF 'alluviumlaw02.BitsGets'. -/
def bitsGetsUptoCard : Claim7 := { stood := { row := bitsGetsUptoRow, standIns := [], harness := (true, "f3e485e63ec1636bd309b9274f6c171ab930fe5a7cb7f97ce4627a8341b52fa1"), looks := false }, kinds := [], alts := [], laidByText := true, laidKinds := [.data], laidTests := true, laidLooks := .later }
def BitsGetsUptoCardSaid : Prop := Claim7.holds Tryd.pinned (.plain (OpenSpec.upto bitsGetsSpec)) bitsGetsUptoCard

/-- THE SECOND FORM's CARD OF 'alluviumlaw02.BitsCounts'. -/
def bitsCountsUptoCard : Claim7 := { stood := { row := bitsCountsUptoRow, standIns := [], harness := (true, "f3e485e63ec1636bd309b9274f6c171ab930fe5a7cb7f97ce4627a8341b52fa1"), looks := false }, kinds := [], alts := [], laidByText := true, laidKinds := [.data], laidTests := true, laidLooks := .later }
def BitsCountsUptoCardSaid : Prop := Claim7.holds Tryd.pinned (.plain (OpenSpec.upto bitsCountsSpec)) bitsCountsUptoCard

/-- THE SECOND FORM's CARD OF 'alluviumlaw02.BitsBack'. -/
def bitsBackUptoCard : Claim7 := { stood := { row := bitsBackUptoRow, standIns := [], harness := (true, "f3e485e63ec1636bd309b9274f6c171ab930fe5a7cb7f97ce4627a8341b52fa1"), looks := false }, kinds := [], alts := [], laidByText := true, laidKinds := [.data], laidTests := true, laidLooks := .later }
def BitsBackUptoCardSaid : Prop := Claim7.holds Tryd.pinned (.plain (OpenSpec.upto bitsBackSpec)) bitsBackUptoCard

/-- THE SECOND FORM's CARD OF 'alluviumlaw02.BitsJoin'. -/
def bitsJoinUptoCard : Claim7 := { stood := { row := bitsJoinUptoRow, standIns := [], harness := (true, "f3e485e63ec1636bd309b9274f6c171ab930fe5a7cb7f97ce4627a8341b52fa1"), looks := false }, kinds := [], alts := [], laidByText := true, laidKinds := [.data], laidTests := true, laidLooks := .later }
def BitsJoinUptoCardSaid : Prop := Claim7.holds Tryd.pinned (.plain (OpenSpec.upto bitsJoinSpec)) bitsJoinUptoCard

/-- THE SECOND FORM's CARD OF 'alluviumlaw02.BitsRoom'. -/
def bitsRoomUptoCard : Claim7 := { stood := { row := bitsRoomUptoRow, standIns := [], harness := (true, "f3e485e63ec1636bd309b9274f6c171ab930fe5a7cb7f97ce4627a8341b52fa1"), looks := false }, kinds := [], alts := [], laidByText := true, laidKinds := [.data], laidTests := true, laidLooks := .later }
def BitsRoomUptoCardSaid : Prop := Claim7.holds Tryd.pinned (.plain (OpenSpec.upto bitsRoomSpec)) bitsRoomUptoCard

/-- THE SECOND FORM's CARD OF 'alluviumlaw05.ValueAll'. -/
def valueAllUptoCard : Claim7 := { stood := { row := valueAllUptoRow, standIns := [], harness := (true, "f3e485e63ec1636bd309b9274f6c171ab930fe5a7cb7f97ce4627a8341b52fa1"), looks := false }, kinds := [], alts := [], laidByText := true, laidKinds := [.data], laidTests := true, laidLooks := .later }
def ValueAllUptoCardSaid : Prop := Claim7.holds Tryd.pinned (.plain (OpenSpec.upto valueAllSpec)) valueAllUptoCard

/-- THE SECOND FORM's CARD OF 'alluviumlaw05.ValueBack'. -/
def valueBackUptoCard : Claim7 := { stood := { row := valueBackUptoRow, standIns := [], harness := (true, "f3e485e63ec1636bd309b9274f6c171ab930fe5a7cb7f97ce4627a8341b52fa1"), looks := false }, kinds := [], alts := [], laidByText := true, laidKinds := [.data], laidTests := true, laidLooks := .later }
def ValueBackUptoCardSaid : Prop := Claim7.holds Tryd.pinned (.plain (OpenSpec.upto valueBackSpec)) valueBackUptoCard

/-- THE SECOND FORM's CARD OF 'alluviumlaw05.ValueStays'. -/
def valueStaysUptoCard : Claim7 := { stood := { row := valueStaysUptoRow, standIns := [], harness := (true, "f3e485e63ec1636bd309b9274f6c171ab930fe5a7cb7f97ce4627a8341b52fa1"), looks := false }, kinds := [], alts := [], laidByText := true, laidKinds := [.data], laidTests := true, laidLooks := .later }
def ValueStaysUptoCardSaid : Prop := Claim7.holds Tryd.pinned (.plain (OpenSpec.upto valueStaysSpec)) valueStaysUptoCard

/-- THE SECOND FORM's CARD OF 'alluviumlaw05.ValueTurned'. -/
def valueTurnedUptoCard : Claim7 := { stood := { row := valueTurnedUptoRow, standIns := [], harness := (true, "f3e485e63ec1636bd309b9274f6c171ab930fe5a7cb7f97ce4627a8341b52fa1"), looks := false }, kinds := [], alts := [], laidByText := true, laidKinds := [.data], laidTests := true, laidLooks := .later }
def ValueTurnedUptoCardSaid : Prop := Claim7.holds Tryd.pinned (.plain (OpenSpec.upto valueTurnedSpec)) valueTurnedUptoCard

/-- THE SECOND FORM's CARD OF 'alluviumlaw05.ValueSteady'. -/
def valueSteadyUptoCard : Claim7 := { stood := { row := valueSteadyUptoRow, standIns := [], harness := (true, "f3e485e63ec1636bd309b9274f6c171ab930fe5a7cb7f97ce4627a8341b52fa1"), looks := false }, kinds := [], alts := [], laidByText := true, laidKinds := [.data], laidTests := true, laidLooks := .later }
def ValueSteadyUptoCardSaid : Prop := Claim7.holds Tryd.pinned (.plain (OpenSpec.upto valueSteadySpec)) valueSteadyUptoCard

/-- THE SECOND FORM's CARD OF 'alluviumlaw11.ChunkPuts'. -/
def chunkPutsUptoCard : Claim7 := { stood := { row := chunkPutsUptoRow, standIns := [], harness := (true, "f3e485e63ec1636bd309b9274f6c171ab930fe5a7cb7f97ce4627a8341b52fa1"), looks := false }, kinds := [], alts := [], laidByText := true, laidKinds := [.data], laidTests := true, laidLooks := .later }
def ChunkPutsUptoCardSaid : Prop := Claim7.holds Tryd.pinned (.plain (OpenSpec.upto chunkPutsSpec)) chunkPutsUptoCard

/-- THE SECOND FORM's CARD OF 'alluviumlaw11.ChunkBack'. -/
def chunkBackUptoCard : Claim7 := { stood := { row := chunkBackUptoRow, standIns := [], harness := (true, "f3e485e63ec1636bd309b9274f6c171ab930fe5a7cb7f97ce4627a8341b52fa1"), looks := false }, kinds := [], alts := [], laidByText := true, laidKinds := [.data], laidTests := true, laidLooks := .later }
def ChunkBackUptoCardSaid : Prop := Claim7.holds Tryd.pinned (.plain (OpenSpec.upto chunkBackSpec)) chunkBackUptoCard

/-- THE SECOND FORM's CARD OF 'alluviumlaw11.ChunkSmallest'. -/
def chunkSmallestUptoCard : Claim7 := { stood := { row := chunkSmallestUptoRow, standIns := [], harness := (true, "f3e485e63ec1636bd309b9274f6c171ab930fe5a7cb7f97ce4627a8341b52fa1"), looks := false }, kinds := [], alts := [], laidByText := true, laidKinds := [.data], laidTests := true, laidLooks := .later }
def ChunkSmallestUptoCardSaid : Prop := Claim7.holds Tryd.pinned (.plain (OpenSpec.upto chunkSmallestSpec)) chunkSmallestUptoCard

/-- THE SECOND FORM's CARD OF 'alluviumlaw11.ChunkSizes'. -/
def chunkSizesUptoCard : Claim7 := { stood := { row := chunkSizesUptoRow, standIns := [], harness := (true, "f3e485e63ec1636bd309b9274f6c171ab930fe5a7cb7f97ce4627a8341b52fa1"), looks := false }, kinds := [], alts := [], laidByText := true, laidKinds := [.data], laidTests := true, laidLooks := .later }
def ChunkSizesUptoCardSaid : Prop := Claim7.holds Tryd.pinned (.plain (OpenSpec.upto chunkSizesSpec)) chunkSizesUptoCard

/-- THE SECOND FORM's CARD OF 'alluviumlaw11.ChunkApart'. -/
def chunkApartUptoCard : Claim7 := { stood := { row := chunkApartUptoRow, standIns := [], harness := (true, "f3e485e63ec1636bd309b9274f6c171ab930fe5a7cb7f97ce4627a8341b52fa1"), looks := false }, kinds := [], alts := [], laidByText := true, laidKinds := [.data], laidTests := true, laidLooks := .later }
def ChunkApartUptoCardSaid : Prop := Claim7.holds Tryd.pinned (.plain (OpenSpec.upto chunkApartSpec)) chunkApartUptoCard
end Rows
end Go.Proofs.YtcbdaemohfpebaaDoor
