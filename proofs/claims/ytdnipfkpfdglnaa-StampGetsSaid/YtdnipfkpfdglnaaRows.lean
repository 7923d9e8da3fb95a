/-
  No cell of these rows narrows 'for every input' (looked for: loops, veiled, ifaces, maps, wideKeys, modest, calm, conditions, laid).
  DERIVED. THE GIVEN ROWS OF THIS SEAT. 7 by the template 'for every input the law returns true; each argument reads behind the call as it read before'; 0 by the template 'total and deterministic' (their statements: YtdnipfkpfdglnaaTotals.lean).
  GIVEN WITH THE SEED: the statements are not yours to turn. If you find one false, say at which input.
  Laid BY PROGRAM, IN A SANDBOX (cutbox-rows.mjs): the forced cells as the released guide's own fill.sh prints them over the translation 80da891096e20ea7… (all of the seat's roots in one cut). By AI agents, Wed Nov 11 2026. No macro, syntax, notation, axiom, sorry.
-/
import Derived.Test.YtdnipfkpfdglnaaChecked
import GoSem.Claim
import GoSem.ClaimJoined
import GoSem.ClaimMapViews
import Derived.JoinedTies
import Derived.KernelRfl
namespace Go.Proofs.Ytdnipfkpfdglnaa
/- THE CELL 'sum', in the pinned program and in every row, IS THE sha256 OF THE DUMP (.gsa) THAT YtdnipfkpfdglnaaProg.lean LOADS. Nothing in Lean hashes anything: it is a label: what it is worth is what the hold of that sum in a sandbox is worth. -/
noncomputable def Try.pinned : Pinned := { name := "ytdnipfkpfdglnaa", sum := "80da891096e20ea75e8cecf0ab6d3262c6d4397538002afa9ccbe9fd2c5d94f4", checked := Try.checked }
namespace Rows
def none {H : Type} : Left H := { results := [], args := [] }

/-- 'alluviumlaw04.StampPuts': WHATEVER THE INPUT: true; the input reads as it did. -/
def stampPutsSpec : ChangeSpec := { name := "stampPuts", fn := fun _ => fun
  | [d1, d2] => { results := [.lit (.bool true)], args := [d1, d2] }
  | _ => none }
def stampPutsRow : OpenClaim := { program := "ytdnipfkpfdglnaa", sum := "80da891096e20ea75e8cecf0ab6d3262c6d4397538002afa9ccbe9fd2c5d94f4", func := "alluvium/alluviumlaw04.StampPuts", spec := "stampPuts", unfollowed := true, recurses := true, apart := false }
def StampPutsSaid : Prop := stampPutsRow.holds Try.pinned (OpenSpec.ofChange stampPutsSpec)

/-- ITS FALSE NEIGHBOUR: 'it returns false'. Refute it at one input. -/
def stampPutsWrong : ChangeSpec := { name := "stampPuts", fn := fun _ => fun
  | [d1, d2] => { results := [.lit (.bool false)], args := [d1, d2] }
  | _ => none }
def StampPutsWrongFalsely : Prop := stampPutsRow.holds Try.pinned (OpenSpec.ofChange stampPutsWrong)

/-- 'alluviumlaw04.StampGets': WHATEVER THE INPUT: true; the input reads as it did. -/
def stampGetsSpec : ChangeSpec := { name := "stampGets", fn := fun _ => fun
  | [d1, d2, d3] => { results := [.lit (.bool true)], args := [d1, d2, d3] }
  | _ => none }
def stampGetsRow : OpenClaim := { program := "ytdnipfkpfdglnaa", sum := "80da891096e20ea75e8cecf0ab6d3262c6d4397538002afa9ccbe9fd2c5d94f4", func := "alluvium/alluviumlaw04.StampGets", spec := "stampGets", unfollowed := true, recurses := true, apart := false }
def StampGetsSaid : Prop := stampGetsRow.holds Try.pinned (OpenSpec.ofChange stampGetsSpec)

/-- ITS FALSE NEIGHBOUR: 'it returns false'. Refute it at one input. -/
def stampGetsWrong : ChangeSpec := { name := "stampGets", fn := fun _ => fun
  | [d1, d2, d3] => { results := [.lit (.bool false)], args := [d1, d2, d3] }
  | _ => none }
def StampGetsWrongFalsely : Prop := stampGetsRow.holds Try.pinned (OpenSpec.ofChange stampGetsWrong)

/-- 'alluviumlaw04.StampAll': WHATEVER THE INPUT: true; the input reads as it did. -/
def stampAllSpec : ChangeSpec := { name := "stampAll", fn := fun _ => fun
  | [d1, d2, d3] => { results := [.lit (.bool true)], args := [d1, d2, d3] }
  | _ => none }
def stampAllRow : OpenClaim := { program := "ytdnipfkpfdglnaa", sum := "80da891096e20ea75e8cecf0ab6d3262c6d4397538002afa9ccbe9fd2c5d94f4", func := "alluvium/alluviumlaw04.StampAll", spec := "stampAll", unfollowed := true, recurses := true, apart := false }
def StampAllSaid : Prop := stampAllRow.holds Try.pinned (OpenSpec.ofChange stampAllSpec)

/-- ITS FALSE NEIGHBOUR: 'it returns false'. Refute it at one input. -/
def stampAllWrong : ChangeSpec := { name := "stampAll", fn := fun _ => fun
  | [d1, d2, d3] => { results := [.lit (.bool false)], args := [d1, d2, d3] }
  | _ => none }
def StampAllWrongFalsely : Prop := stampAllRow.holds Try.pinned (OpenSpec.ofChange stampAllWrong)

/-- 'alluviumlaw04.StampBack': WHATEVER THE INPUT: true; the input reads as it did. -/
def stampBackSpec : ChangeSpec := { name := "stampBack", fn := fun _ => fun
  | [d1, d2, d3] => { results := [.lit (.bool true)], args := [d1, d2, d3] }
  | _ => none }
def stampBackRow : OpenClaim := { program := "ytdnipfkpfdglnaa", sum := "80da891096e20ea75e8cecf0ab6d3262c6d4397538002afa9ccbe9fd2c5d94f4", func := "alluvium/alluviumlaw04.StampBack", spec := "stampBack", unfollowed := true, recurses := true, apart := false }
def StampBackSaid : Prop := stampBackRow.holds Try.pinned (OpenSpec.ofChange stampBackSpec)

/-- ITS FALSE NEIGHBOUR: 'it returns false'. Refute it at one input. -/
def stampBackWrong : ChangeSpec := { name := "stampBack", fn := fun _ => fun
  | [d1, d2, d3] => { results := [.lit (.bool false)], args := [d1, d2, d3] }
  | _ => none }
def StampBackWrongFalsely : Prop := stampBackRow.holds Try.pinned (OpenSpec.ofChange stampBackWrong)

/-- 'alluviumlaw04.StampSteady': WHATEVER THE INPUT: true; the input reads as it did. -/
def stampSteadySpec : ChangeSpec := { name := "stampSteady", fn := fun _ => fun
  | [d1, d2, d3] => { results := [.lit (.bool true)], args := [d1, d2, d3] }
  | _ => none }
def stampSteadyRow : OpenClaim := { program := "ytdnipfkpfdglnaa", sum := "80da891096e20ea75e8cecf0ab6d3262c6d4397538002afa9ccbe9fd2c5d94f4", func := "alluvium/alluviumlaw04.StampSteady", spec := "stampSteady", unfollowed := true, recurses := true, apart := false }
def StampSteadySaid : Prop := stampSteadyRow.holds Try.pinned (OpenSpec.ofChange stampSteadySpec)

/-- ITS FALSE NEIGHBOUR: 'it returns false'. Refute it at one input. -/
def stampSteadyWrong : ChangeSpec := { name := "stampSteady", fn := fun _ => fun
  | [d1, d2, d3] => { results := [.lit (.bool false)], args := [d1, d2, d3] }
  | _ => none }
def StampSteadyWrongFalsely : Prop := stampSteadyRow.holds Try.pinned (OpenSpec.ofChange stampSteadyWrong)

/-- 'alluviumlaw04.StampCosts': WHATEVER THE INPUT: true; the input reads as it did. -/
def stampCostsSpec : ChangeSpec := { name := "stampCosts", fn := fun _ => fun
  | [d] => { results := [.lit (.bool true)], args := [d] }
  | _ => none }
def stampCostsRow : OpenClaim := { program := "ytdnipfkpfdglnaa", sum := "80da891096e20ea75e8cecf0ab6d3262c6d4397538002afa9ccbe9fd2c5d94f4", func := "alluvium/alluviumlaw04.StampCosts", spec := "stampCosts", unfollowed := true, recurses := true, apart := false }
def StampCostsSaid : Prop := stampCostsRow.holds Try.pinned (OpenSpec.ofChange stampCostsSpec)

/-- ITS FALSE NEIGHBOUR: 'it returns false'. Refute it at one input. -/
def stampCostsWrong : ChangeSpec := { name := "stampCosts", fn := fun _ => fun
  | [d] => { results := [.lit (.bool false)], args := [d] }
  | _ => none }
def StampCostsWrongFalsely : Prop := stampCostsRow.holds Try.pinned (OpenSpec.ofChange stampCostsWrong)

/-- 'alluviumlaw04.StampMoves': WHATEVER THE INPUT: true; the input reads as it did. -/
def stampMovesSpec : ChangeSpec := { name := "stampMoves", fn := fun _ => fun
  | [d1, d2] => { results := [.lit (.bool true)], args := [d1, d2] }
  | _ => none }
def stampMovesRow : OpenClaim := { program := "ytdnipfkpfdglnaa", sum := "80da891096e20ea75e8cecf0ab6d3262c6d4397538002afa9ccbe9fd2c5d94f4", func := "alluvium/alluviumlaw04.StampMoves", spec := "stampMoves", unfollowed := true, recurses := true, apart := false }
def StampMovesSaid : Prop := stampMovesRow.holds Try.pinned (OpenSpec.ofChange stampMovesSpec)

/-- ITS FALSE NEIGHBOUR: 'it returns false'. Refute it at one input. -/
def stampMovesWrong : ChangeSpec := { name := "stampMoves", fn := fun _ => fun
  | [d1, d2] => { results := [.lit (.bool false)], args := [d1, d2] }
  | _ => none }
def StampMovesWrongFalsely : Prop := stampMovesRow.holds Try.pinned (OpenSpec.ofChange stampMovesWrong)

/- THE SECOND FORM. 'bulk': how many values and letters a reading holds, each counted each time it is reached (what is shared counts as often as it is met; a slice's spare places count too). A statement '..UptoSaid' is the law's where the arguments, and the package variables that the reading takes, are together of bulk at most 1048576: NARROWER than '..Said'. Prove '..Said' where nothing that the law and all that it calls make is longer than what came in: it says more and counts as full. Else prove '..UptoSaid'. A law counts once. -/
mutual
def uptoBulk {H : Type} : DataW H → Nat
  | .lit (.string bytes) => bytes.length + 1
  | .lit _ => 1
  | .nil => 1
  | .ptr d => uptoBulk d + 1
  | .slice elems spare => uptoBulkAll elems + uptoBulkAll spare + 1
  | .agg parts => uptoBulkAll parts + 1
  | .iface _ d => uptoBulk d + 1
  | .map entries => uptoBulkEntries entries + 1
  | .held _ => 1
def uptoBulkAll {H : Type} : List (DataW H) → Nat
  | [] => 0
  | d :: r => uptoBulk d + uptoBulkAll r
def uptoBulkEntries {H : Type} : List (Lit × DataW H) → Nat
  | [] => 0
  | x :: r => uptoBulkEntry x + uptoBulkEntries r
def uptoBulkEntry {H : Type} : Lit × DataW H → Nat
  | (.string bytes, d) => bytes.length + uptoBulk d + 1
  | (_, d) => uptoBulk d + 1
 end
def uptoSmall : (H : Type) → List (DataW H) → Bool := fun _ ds => decide (uptoBulkAll ds ≤ 1048576)
def OpenSpec.upto (s : _root_.Go.ChangeSpec) : _root_.Go.OpenSpec := { _root_.Go.OpenSpec.ofChange s with cond := some uptoSmall }

/-- 'alluviumlaw04.StampPuts', WHERE WHAT IT READS IS OF BULK AT MOST 1048576: true; the input reads as it did. -/
def stampPutsUptoRow : OpenClaim := { program := "ytdnipfkpfdglnaa", sum := "80da891096e20ea75e8cecf0ab6d3262c6d4397538002afa9ccbe9fd2c5d94f4", func := "alluvium/alluviumlaw04.StampPuts", spec := "stampPuts", unfollowed := true, recurses := true, apart := false, narrowed := true }
def StampPutsUptoSaid : Prop := stampPutsUptoRow.holds Try.pinned (OpenSpec.upto stampPutsSpec)

/-- 'alluviumlaw04.StampGets', WHERE WHAT IT READS IS OF BULK AT MOST 1048576: true; the input reads as it did. -/
def stampGetsUptoRow : OpenClaim := { program := "ytdnipfkpfdglnaa", sum := "80da891096e20ea75e8cecf0ab6d3262c6d4397538002afa9ccbe9fd2c5d94f4", func := "alluvium/alluviumlaw04.StampGets", spec := "stampGets", unfollowed := true, recurses := true, apart := false, narrowed := true }
def StampGetsUptoSaid : Prop := stampGetsUptoRow.holds Try.pinned (OpenSpec.upto stampGetsSpec)

/-- 'alluviumlaw04.StampAll', WHERE WHAT IT READS IS OF BULK AT MOST 1048576: true; the input reads as it did. -/
def stampAllUptoRow : OpenClaim := { program := "ytdnipfkpfdglnaa", sum := "80da891096e20ea75e8cecf0ab6d3262c6d4397538002afa9ccbe9fd2c5d94f4", func := "alluvium/alluviumlaw04.StampAll", spec := "stampAll", unfollowed := true, recurses := true, apart := false, narrowed := true }
def StampAllUptoSaid : Prop := stampAllUptoRow.holds Try.pinned (OpenSpec.upto stampAllSpec)

/-- 'alluviumlaw04.StampBack', WHERE WHAT IT READS IS OF BULK AT MOST 1048576: true; the input reads as it did. -/
def stampBackUptoRow : OpenClaim := { program := "ytdnipfkpfdglnaa", sum := "80da891096e20ea75e8cecf0ab6d3262c6d4397538002afa9ccbe9fd2c5d94f4", func := "alluvium/alluviumlaw04.StampBack", spec := "stampBack", unfollowed := true, recurses := true, apart := false, narrowed := true }
def StampBackUptoSaid : Prop := stampBackUptoRow.holds Try.pinned (OpenSpec.upto stampBackSpec)

/-- 'alluviumlaw04.StampSteady', WHERE WHAT IT READS IS OF BULK AT MOST 1048576: true; the input reads as it did. -/
def stampSteadyUptoRow : OpenClaim := { program := "ytdnipfkpfdglnaa", sum := "80da891096e20ea75e8cecf0ab6d3262c6d4397538002afa9ccbe9fd2c5d94f4", func := "alluvium/alluviumlaw04.StampSteady", spec := "stampSteady", unfollowed := true, recurses := true, apart := false, narrowed := true }
def StampSteadyUptoSaid : Prop := stampSteadyUptoRow.holds Try.pinned (OpenSpec.upto stampSteadySpec)

/-- 'alluviumlaw04.StampCosts', WHERE WHAT IT READS IS OF BULK AT MOST 1048576: true; the input reads as it did. -/
def stampCostsUptoRow : OpenClaim := { program := "ytdnipfkpfdglnaa", sum := "80da891096e20ea75e8cecf0ab6d3262c6d4397538002afa9ccbe9fd2c5d94f4", func := "alluvium/alluviumlaw04.StampCosts", spec := "stampCosts", unfollowed := true, recurses := true, apart := false, narrowed := true }
def StampCostsUptoSaid : Prop := stampCostsUptoRow.holds Try.pinned (OpenSpec.upto stampCostsSpec)

/-- 'alluviumlaw04.StampMoves', WHERE WHAT IT READS IS OF BULK AT MOST 1048576: true; the input reads as it did. -/
def stampMovesUptoRow : OpenClaim := { program := "ytdnipfkpfdglnaa", sum := "80da891096e20ea75e8cecf0ab6d3262c6d4397538002afa9ccbe9fd2c5d94f4", func := "alluvium/alluviumlaw04.StampMoves", spec := "stampMoves", unfollowed := true, recurses := true, apart := false, narrowed := true }
def StampMovesUptoSaid : Prop := stampMovesUptoRow.holds Try.pinned (OpenSpec.upto stampMovesSpec)

end Rows
end Go.Proofs.Ytdnipfkpfdglnaa
