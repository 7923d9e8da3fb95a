/-
  DERIVED. GIVEN WITH THE SEED: THE CARDS: each row of YtboomamnenonoaaDoorRows.lean that lists a variable, with what it lists TIED to the program's text (the seventh form; the later family's looks); each row that meets fmt, with fmt's text TOLD by the authors' own Lean function (tested against real Go, not proved from fmt's source: count such statements apart). THE CARD IS WHAT COUNTS. Prove the row's statement (the work); the ties are given (YtboomamnenonoaaDoorTie.lean); close each card by the builder's one call (the guide's Derived/Test/ToyasCard.lean, 'card_holds'). Laid BY PROGRAM, IN A SANDBOX (cutbox-door.mjs). By AI agents, Wed Nov 11 2026. No macro, syntax, notation, axiom, sorry.
-/
import Derived.Test.YtboomamnenonoaaDoorRows
import GoSem.ClaimSeven
namespace Go.Proofs.YtboomamnenonoaaDoor
namespace Rows

/-- THE TIED CARD OF 'alluviumlaw05.ValueAll'. -/
def valueAllCard : Claim7 := { stood := { row := valueAllRow, standIns := [], harness := (true, "7b607746d947517f21bc8b74700d92c8253b09fefc3a127e89e0cfe67c7ae4f7"), looks := false }, kinds := [], alts := [], laidByText := true, laidKinds := [.data], laidTests := true, laidLooks := .later }
def ValueAllCardSaid : Prop := Claim7.holds Tryd.pinned (.plain (OpenSpec.ofChange valueAllSpec)) valueAllCard

/-- THE TIED CARD OF 'alluviumlaw05.ValueBack'. -/
def valueBackCard : Claim7 := { stood := { row := valueBackRow, standIns := [], harness := (true, "7b607746d947517f21bc8b74700d92c8253b09fefc3a127e89e0cfe67c7ae4f7"), looks := false }, kinds := [], alts := [], laidByText := true, laidKinds := [.data], laidTests := true, laidLooks := .later }
def ValueBackCardSaid : Prop := Claim7.holds Tryd.pinned (.plain (OpenSpec.ofChange valueBackSpec)) valueBackCard

/-- THE TIED CARD OF 'alluviumlaw05.ValueStays'. -/
def valueStaysCard : Claim7 := { stood := { row := valueStaysRow, standIns := [], harness := (true, "7b607746d947517f21bc8b74700d92c8253b09fefc3a127e89e0cfe67c7ae4f7"), looks := false }, kinds := [], alts := [], laidByText := true, laidKinds := [.data], laidTests := true, laidLooks := .later }
def ValueStaysCardSaid : Prop := Claim7.holds Tryd.pinned (.plain (OpenSpec.ofChange valueStaysSpec)) valueStaysCard

/-- THE TIED CARD OF 'alluviumlaw05.ValueTurned'. -/
def valueTurnedCard : Claim7 := { stood := { row := valueTurnedRow, standIns := [], harness := (true, "7b607746d947517f21bc8b74700d92c8253b09fefc3a127e89e0cfe67c7ae4f7"), looks := false }, kinds := [], alts := [], laidByText := true, laidKinds := [.data], laidTests := true, laidLooks := .later }
def ValueTurnedCardSaid : Prop := Claim7.holds Tryd.pinned (.plain (OpenSpec.ofChange valueTurnedSpec)) valueTurnedCard

/-- THE TIED CARD OF 'alluviumlaw05.ValueSteady'. -/
def valueSteadyCard : Claim7 := { stood := { row := valueSteadyRow, standIns := [], harness := (true, "7b607746d947517f21bc8b74700d92c8253b09fefc3a127e89e0cfe67c7ae4f7"), looks := false }, kinds := [], alts := [], laidByText := true, laidKinds := [.data], laidTests := true, laidLooks := .later }
def ValueSteadyCardSaid : Prop := Claim7.holds Tryd.pinned (.plain (OpenSpec.ofChange valueSteadySpec)) valueSteadyCard

/-- THE SECOND FORM's CARD OF 'alluviumlaw05.ValueAll'. -/
def valueAllUptoCard : Claim7 := { stood := { row := valueAllUptoRow, standIns := [], harness := (true, "7b607746d947517f21bc8b74700d92c8253b09fefc3a127e89e0cfe67c7ae4f7"), looks := false }, kinds := [], alts := [], laidByText := true, laidKinds := [.data], laidTests := true, laidLooks := .later }
def ValueAllUptoCardSaid : Prop := Claim7.holds Tryd.pinned (.plain (OpenSpec.upto valueAllSpec)) valueAllUptoCard

/-- THE SECOND FORM's CARD OF 'alluviumlaw05.ValueBack'. -/
def valueBackUptoCard : Claim7 := { stood := { row := valueBackUptoRow, standIns := [], harness := (true, "7b607746d947517f21bc8b74700d92c8253b09fefc3a127e89e0cfe67c7ae4f7"), looks := false }, kinds := [], alts := [], laidByText := true, laidKinds := [.data], laidTests := true, laidLooks := .later }
def ValueBackUptoCardSaid : Prop := Claim7.holds Tryd.pinned (.plain (OpenSpec.upto valueBackSpec)) valueBackUptoCard

/-- THE SECOND FORM's CARD OF 'alluviumlaw05.ValueStays'. -/
def valueStaysUptoCard : Claim7 := { stood := { row := valueStaysUptoRow, standIns := [], harness := (true, "7b607746d947517f21bc8b74700d92c8253b09fefc3a127e89e0cfe67c7ae4f7"), looks := false }, kinds := [], alts := [], laidByText := true, laidKinds := [.data], laidTests := true, laidLooks := .later }
def ValueStaysUptoCardSaid : Prop := Claim7.holds Tryd.pinned (.plain (OpenSpec.upto valueStaysSpec)) valueStaysUptoCard

/-- THE SECOND FORM's CARD OF 'alluviumlaw05.ValueTurned'. -/
def valueTurnedUptoCard : Claim7 := { stood := { row := valueTurnedUptoRow, standIns := [], harness := (true, "7b607746d947517f21bc8b74700d92c8253b09fefc3a127e89e0cfe67c7ae4f7"), looks := false }, kinds := [], alts := [], laidByText := true, laidKinds := [.data], laidTests := true, laidLooks := .later }
def ValueTurnedUptoCardSaid : Prop := Claim7.holds Tryd.pinned (.plain (OpenSpec.upto valueTurnedSpec)) valueTurnedUptoCard

/-- THE SECOND FORM's CARD OF 'alluviumlaw05.ValueSteady'. -/
def valueSteadyUptoCard : Claim7 := { stood := { row := valueSteadyUptoRow, standIns := [], harness := (true, "7b607746d947517f21bc8b74700d92c8253b09fefc3a127e89e0cfe67c7ae4f7"), looks := false }, kinds := [], alts := [], laidByText := true, laidKinds := [.data], laidTests := true, laidLooks := .later }
def ValueSteadyUptoCardSaid : Prop := Claim7.holds Tryd.pinned (.plain (OpenSpec.upto valueSteadySpec)) valueSteadyUptoCard
end Rows
end Go.Proofs.YtboomamnenonoaaDoor
