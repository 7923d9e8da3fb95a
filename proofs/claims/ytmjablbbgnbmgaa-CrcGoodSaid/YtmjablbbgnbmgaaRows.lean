/-
  No cell of these rows narrows 'for every input' (looked for: loops, veiled, ifaces, maps, wideKeys, modest, calm, conditions, laid).
  DERIVED. THE GIVEN ROWS OF THIS SEAT. 6 by the template 'for every input the law returns true; each argument reads behind the call as it read before'; 0 by the template 'total and deterministic' (their statements: YtmjablbbgnbmgaaTotals.lean).
  GIVEN WITH THE SEED: the statements are not yours to turn. If you find one false, say at which input.
  Laid BY PROGRAM, IN A SANDBOX (cutbox-rows.mjs): the forced cells as the released guide's own fill.sh prints them over the translation bb5513fbdcd22369… (all of the seat's roots in one cut). By AI agents, Wed Nov 11 2026. No macro, syntax, notation, axiom, sorry.
-/
import Derived.Test.YtmjablbbgnbmgaaChecked
import GoSem.Claim
import GoSem.ClaimJoined
import GoSem.ClaimMapViews
import Derived.JoinedTies
import Derived.KernelRfl
namespace Go.Proofs.Ytmjablbbgnbmgaa
/- THE CELL 'sum', in the pinned program and in every row, IS THE sha256 OF THE DUMP (.gsa) THAT YtmjablbbgnbmgaaProg.lean LOADS. Nothing in Lean hashes anything: it is a label: what it is worth is what the hold of that sum in a sandbox is worth. -/
noncomputable def Try.pinned : Pinned := { name := "ytmjablbbgnbmgaa", sum := "bb5513fbdcd22369ba0271597d6e4630753e14902e8a12962d6ea0f6294bb3d1", checked := Try.checked }
namespace Rows
def none {H : Type} : Left H := { results := [], args := [] }

/-- 'alluviumlaw01.CrcOf': WHATEVER THE INPUT: true; the input reads as it did. -/
def crcOfSpec : ChangeSpec := { name := "crcOf", fn := fun _ => fun
  | [d1, d2] => { results := [.lit (.bool true)], args := [d1, d2] }
  | _ => none }
def crcOfRow : OpenClaim := { program := "ytmjablbbgnbmgaa", sum := "bb5513fbdcd22369ba0271597d6e4630753e14902e8a12962d6ea0f6294bb3d1", func := "alluvium/alluviumlaw01.CrcOf", spec := "crcOf", apart := false }
def CrcOfSaid : Prop := crcOfRow.holds Try.pinned (OpenSpec.ofChange crcOfSpec)

/-- ITS FALSE NEIGHBOUR: 'it returns false'. Refute it at one input. -/
def crcOfWrong : ChangeSpec := { name := "crcOf", fn := fun _ => fun
  | [d1, d2] => { results := [.lit (.bool false)], args := [d1, d2] }
  | _ => none }
def CrcOfWrongFalsely : Prop := crcOfRow.holds Try.pinned (OpenSpec.ofChange crcOfWrong)

/-- 'alluviumlaw01.CrcParts': WHATEVER THE INPUT: true; the input reads as it did. -/
def crcPartsSpec : ChangeSpec := { name := "crcParts", fn := fun _ => fun
  | [d1, d2, d3] => { results := [.lit (.bool true)], args := [d1, d2, d3] }
  | _ => none }
def crcPartsRow : OpenClaim := { program := "ytmjablbbgnbmgaa", sum := "bb5513fbdcd22369ba0271597d6e4630753e14902e8a12962d6ea0f6294bb3d1", func := "alluvium/alluviumlaw01.CrcParts", spec := "crcParts", apart := false }
def CrcPartsSaid : Prop := crcPartsRow.holds Try.pinned (OpenSpec.ofChange crcPartsSpec)

/-- ITS FALSE NEIGHBOUR: 'it returns false'. Refute it at one input. -/
def crcPartsWrong : ChangeSpec := { name := "crcParts", fn := fun _ => fun
  | [d1, d2, d3] => { results := [.lit (.bool false)], args := [d1, d2, d3] }
  | _ => none }
def CrcPartsWrongFalsely : Prop := crcPartsRow.holds Try.pinned (OpenSpec.ofChange crcPartsWrong)

/-- 'alluviumlaw01.CrcBurst': WHATEVER THE INPUT: true; the input reads as it did. -/
def crcBurstSpec : ChangeSpec := { name := "crcBurst", fn := fun _ => fun
  | [d1, d2, d3, d4] => { results := [.lit (.bool true)], args := [d1, d2, d3, d4] }
  | _ => none }
def crcBurstRow : OpenClaim := { program := "ytmjablbbgnbmgaa", sum := "bb5513fbdcd22369ba0271597d6e4630753e14902e8a12962d6ea0f6294bb3d1", func := "alluvium/alluviumlaw01.CrcBurst", spec := "crcBurst", apart := false }
def CrcBurstSaid : Prop := crcBurstRow.holds Try.pinned (OpenSpec.ofChange crcBurstSpec)

/-- ITS FALSE NEIGHBOUR: 'it returns false'. Refute it at one input. -/
def crcBurstWrong : ChangeSpec := { name := "crcBurst", fn := fun _ => fun
  | [d1, d2, d3, d4] => { results := [.lit (.bool false)], args := [d1, d2, d3, d4] }
  | _ => none }
def CrcBurstWrongFalsely : Prop := crcBurstRow.holds Try.pinned (OpenSpec.ofChange crcBurstWrong)

/-- 'alluviumlaw01.CrcGood': WHATEVER THE INPUT: true; the input reads as it did. -/
def crcGoodSpec : ChangeSpec := { name := "crcGood", fn := fun _ => fun
  | [d1, d2] => { results := [.lit (.bool true)], args := [d1, d2] }
  | _ => none }
def crcGoodRow : OpenClaim := { program := "ytmjablbbgnbmgaa", sum := "bb5513fbdcd22369ba0271597d6e4630753e14902e8a12962d6ea0f6294bb3d1", func := "alluvium/alluviumlaw01.CrcGood", spec := "crcGood", apart := false }
def CrcGoodSaid : Prop := crcGoodRow.holds Try.pinned (OpenSpec.ofChange crcGoodSpec)

/-- ITS FALSE NEIGHBOUR: 'it returns false'. Refute it at one input. -/
def crcGoodWrong : ChangeSpec := { name := "crcGood", fn := fun _ => fun
  | [d1, d2] => { results := [.lit (.bool false)], args := [d1, d2] }
  | _ => none }
def CrcGoodWrongFalsely : Prop := crcGoodRow.holds Try.pinned (OpenSpec.ofChange crcGoodWrong)

/-- 'alluviumlaw01.CrcEnd': WHATEVER THE INPUT: true; the input reads as it did. -/
def crcEndSpec : ChangeSpec := { name := "crcEnd", fn := fun _ => fun
  | [d1, d2] => { results := [.lit (.bool true)], args := [d1, d2] }
  | _ => none }
def crcEndRow : OpenClaim := { program := "ytmjablbbgnbmgaa", sum := "bb5513fbdcd22369ba0271597d6e4630753e14902e8a12962d6ea0f6294bb3d1", func := "alluvium/alluviumlaw01.CrcEnd", spec := "crcEnd", apart := false }
def CrcEndSaid : Prop := crcEndRow.holds Try.pinned (OpenSpec.ofChange crcEndSpec)

/-- ITS FALSE NEIGHBOUR: 'it returns false'. Refute it at one input. -/
def crcEndWrong : ChangeSpec := { name := "crcEnd", fn := fun _ => fun
  | [d1, d2] => { results := [.lit (.bool false)], args := [d1, d2] }
  | _ => none }
def CrcEndWrongFalsely : Prop := crcEndRow.holds Try.pinned (OpenSpec.ofChange crcEndWrong)

/-- 'alluviumlaw01.CrcTurned': WHATEVER THE INPUT: true; the input reads as it did. -/
def crcTurnedSpec : ChangeSpec := { name := "crcTurned", fn := fun _ => fun
  | [d1, d2, d3] => { results := [.lit (.bool true)], args := [d1, d2, d3] }
  | _ => none }
def crcTurnedRow : OpenClaim := { program := "ytmjablbbgnbmgaa", sum := "bb5513fbdcd22369ba0271597d6e4630753e14902e8a12962d6ea0f6294bb3d1", func := "alluvium/alluviumlaw01.CrcTurned", spec := "crcTurned", apart := false }
def CrcTurnedSaid : Prop := crcTurnedRow.holds Try.pinned (OpenSpec.ofChange crcTurnedSpec)

/-- ITS FALSE NEIGHBOUR: 'it returns false'. Refute it at one input. -/
def crcTurnedWrong : ChangeSpec := { name := "crcTurned", fn := fun _ => fun
  | [d1, d2, d3] => { results := [.lit (.bool false)], args := [d1, d2, d3] }
  | _ => none }
def CrcTurnedWrongFalsely : Prop := crcTurnedRow.holds Try.pinned (OpenSpec.ofChange crcTurnedWrong)

/- THE SECOND FORM. 'bulk': how many values and letters a reading holds, each counted each time it is reached (what is shared counts as often as it is met; a slice's spare places count too). A statement '..UptoSaid' is the law's where the arguments, and the package variables that the reading takes, are together of bulk at most 1048576: NARROWER than '..Said'. Prove '..Said' where nothing that the law and all that it calls make is longer than what came in: it says more and counts as full. Else prove '..UptoSaid'. A law counts once. -/
mutual
def uptoBulk {H : Type} : DataW H → Nat
  | .lit (.string bytes) => bytes.length + 1
  | .lit _ => 1
  | .nil => 1
  | .ptr d => uptoBulk d + 1
  | .slice elems spare => uptoBulkAll elems + uptoBulkAll spare + 1
  | .agg parts => uptoBulkAll parts + 1
  | .iface _ d => uptoBulk d + 1
  | .map entries => uptoBulkEntries entries + 1
  | .held _ => 1
def uptoBulkAll {H : Type} : List (DataW H) → Nat
  | [] => 0
  | d :: r => uptoBulk d + uptoBulkAll r
def uptoBulkEntries {H : Type} : List (Lit × DataW H) → Nat
  | [] => 0
  | x :: r => uptoBulkEntry x + uptoBulkEntries r
def uptoBulkEntry {H : Type} : Lit × DataW H → Nat
  | (.string bytes, d) => bytes.length + uptoBulk d + 1
  | (_, d) => uptoBulk d + 1
 end
def uptoSmall : (H : Type) → List (DataW H) → Bool := fun _ ds => decide (uptoBulkAll ds ≤ 1048576)
def OpenSpec.upto (s : _root_.Go.ChangeSpec) : _root_.Go.OpenSpec := { _root_.Go.OpenSpec.ofChange s with cond := some uptoSmall }

/-- 'alluviumlaw01.CrcOf', WHERE WHAT IT READS IS OF BULK AT MOST 1048576: true; the input reads as it did. -/
def crcOfUptoRow : OpenClaim := { program := "ytmjablbbgnbmgaa", sum := "bb5513fbdcd22369ba0271597d6e4630753e14902e8a12962d6ea0f6294bb3d1", func := "alluvium/alluviumlaw01.CrcOf", spec := "crcOf", apart := false, narrowed := true }
def CrcOfUptoSaid : Prop := crcOfUptoRow.holds Try.pinned (OpenSpec.upto crcOfSpec)

/-- 'alluviumlaw01.CrcParts', WHERE WHAT IT READS IS OF BULK AT MOST 1048576: true; the input reads as it did. -/
def crcPartsUptoRow : OpenClaim := { program := "ytmjablbbgnbmgaa", sum := "bb5513fbdcd22369ba0271597d6e4630753e14902e8a12962d6ea0f6294bb3d1", func := "alluvium/alluviumlaw01.CrcParts", spec := "crcParts", apart := false, narrowed := true }
def CrcPartsUptoSaid : Prop := crcPartsUptoRow.holds Try.pinned (OpenSpec.upto crcPartsSpec)

/-- 'alluviumlaw01.CrcBurst', WHERE WHAT IT READS IS OF BULK AT MOST 1048576: true; the input reads as it did. -/
def crcBurstUptoRow : OpenClaim := { program := "ytmjablbbgnbmgaa", sum := "bb5513fbdcd22369ba0271597d6e4630753e14902e8a12962d6ea0f6294bb3d1", func := "alluvium/alluviumlaw01.CrcBurst", spec := "crcBurst", apart := false, narrowed := true }
def CrcBurstUptoSaid : Prop := crcBurstUptoRow.holds Try.pinned (OpenSpec.upto crcBurstSpec)

/-- 'alluviumlaw01.CrcGood', WHERE WHAT IT READS IS OF BULK AT MOST 1048576: true; the input reads as it did. -/
def crcGoodUptoRow : OpenClaim := { program := "ytmjablbbgnbmgaa", sum := "bb5513fbdcd22369ba0271597d6e4630753e14902e8a12962d6ea0f6294bb3d1", func := "alluvium/alluviumlaw01.CrcGood", spec := "crcGood", apart := false, narrowed := true }
def CrcGoodUptoSaid : Prop := crcGoodUptoRow.holds Try.pinned (OpenSpec.upto crcGoodSpec)

/-- 'alluviumlaw01.CrcEnd', WHERE WHAT IT READS IS OF BULK AT MOST 1048576: true; the input reads as it did. -/
def crcEndUptoRow : OpenClaim := { program := "ytmjablbbgnbmgaa", sum := "bb5513fbdcd22369ba0271597d6e4630753e14902e8a12962d6ea0f6294bb3d1", func := "alluvium/alluviumlaw01.CrcEnd", spec := "crcEnd", apart := false, narrowed := true }
def CrcEndUptoSaid : Prop := crcEndUptoRow.holds Try.pinned (OpenSpec.upto crcEndSpec)

/-- 'alluviumlaw01.CrcTurned', WHERE WHAT IT READS IS OF BULK AT MOST 1048576: true; the input reads as it did. -/
def crcTurnedUptoRow : OpenClaim := { program := "ytmjablbbgnbmgaa", sum := "bb5513fbdcd22369ba0271597d6e4630753e14902e8a12962d6ea0f6294bb3d1", func := "alluvium/alluviumlaw01.CrcTurned", spec := "crcTurned", apart := false, narrowed := true }
def CrcTurnedUptoSaid : Prop := crcTurnedUptoRow.holds Try.pinned (OpenSpec.upto crcTurnedSpec)

end Rows
end Go.Proofs.Ytmjablbbgnbmgaa
