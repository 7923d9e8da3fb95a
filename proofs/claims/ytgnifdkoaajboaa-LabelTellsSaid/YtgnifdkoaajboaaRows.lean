/-
  No cell of these rows narrows 'for every input' (looked for: loops, veiled, ifaces, maps, wideKeys, modest, calm, conditions, laid).
  DERIVED. THE GIVEN ROWS OF THIS SEAT. 8 by the template 'for every input the law returns true; each argument reads behind the call as it read before'; 0 by the template 'total and deterministic' (their statements: YtgnifdkoaajboaaTotals.lean).
  GIVEN WITH THE SEED: the statements are not yours to turn. If you find one false, say at which input.
  Laid BY PROGRAM, IN A SANDBOX (cutbox-rows.mjs): the forced cells as the released guide's own fill.sh prints them over the translation a3a768c60e869027… (all of the seat's roots in one cut). By AI agents, Wed Nov 11 2026. No macro, syntax, notation, axiom, sorry.
-/
import Derived.Test.YtgnifdkoaajboaaChecked
import GoSem.Claim
import GoSem.ClaimJoined
import GoSem.ClaimMapViews
import Derived.JoinedTies
import Derived.KernelRfl
namespace Go.Proofs.Ytgnifdkoaajboaa
/- THE CELL 'sum', in the pinned program and in every row, IS THE sha256 OF THE DUMP (.gsa) THAT YtgnifdkoaajboaaProg.lean LOADS. Nothing in Lean hashes anything: it is a label: what it is worth is what the hold of that sum in a sandbox is worth. -/
noncomputable def Try.pinned : Pinned := { name := "ytgnifdkoaajboaa", sum := "a3a768c60e86902716efb62cad2809a7d2220be3e0e82564fa7e2f887a856bf1", checked := Try.checked }
namespace Rows
def none {H : Type} : Left H := { results := [], args := [] }

/-- 'alluviumlaw06.LabelTells': WHATEVER THE INPUT: true; the input reads as it did. -/
def labelTellsSpec : ChangeSpec := { name := "labelTells", fn := fun _ => fun
  | [d1, d2, d3] => { results := [.lit (.bool true)], args := [d1, d2, d3] }
  | _ => none }
def labelTellsRow : OpenClaim := { program := "ytgnifdkoaajboaa", sum := "a3a768c60e86902716efb62cad2809a7d2220be3e0e82564fa7e2f887a856bf1", func := "alluvium/alluviumlaw06.LabelTells", spec := "labelTells", inPlace := ["internal/abi.NoEscape", "internal/bytealg.IndexByteString", "internal/bytealg.IndexString"], unfollowed := true, recurses := true, named := ["internal/bytealg.MaxLen"], apart := false }
def LabelTellsSaid : Prop := labelTellsRow.holds Try.pinned (OpenSpec.ofChange labelTellsSpec)

/-- ITS FALSE NEIGHBOUR: 'it returns false'. Refute it at one input. -/
def labelTellsWrong : ChangeSpec := { name := "labelTells", fn := fun _ => fun
  | [d1, d2, d3] => { results := [.lit (.bool false)], args := [d1, d2, d3] }
  | _ => none }
def LabelTellsWrongFalsely : Prop := labelTellsRow.holds Try.pinned (OpenSpec.ofChange labelTellsWrong)

/-- 'alluviumlaw06.LabelReads': WHATEVER THE INPUT: true; the input reads as it did. -/
def labelReadsSpec : ChangeSpec := { name := "labelReads", fn := fun _ => fun
  | [d1, d2] => { results := [.lit (.bool true)], args := [d1, d2] }
  | _ => none }
def labelReadsRow : OpenClaim := { program := "ytgnifdkoaajboaa", sum := "a3a768c60e86902716efb62cad2809a7d2220be3e0e82564fa7e2f887a856bf1", func := "alluvium/alluviumlaw06.LabelReads", spec := "labelReads", inPlace := ["internal/abi.NoEscape", "internal/bytealg.IndexByteString", "internal/bytealg.IndexString"], unfollowed := true, recurses := true, named := ["internal/bytealg.MaxLen"], apart := false }
def LabelReadsSaid : Prop := labelReadsRow.holds Try.pinned (OpenSpec.ofChange labelReadsSpec)

/-- ITS FALSE NEIGHBOUR: 'it returns false'. Refute it at one input. -/
def labelReadsWrong : ChangeSpec := { name := "labelReads", fn := fun _ => fun
  | [d1, d2] => { results := [.lit (.bool false)], args := [d1, d2] }
  | _ => none }
def LabelReadsWrongFalsely : Prop := labelReadsRow.holds Try.pinned (OpenSpec.ofChange labelReadsWrong)

/-- 'alluviumlaw06.LabelPairs': WHATEVER THE INPUT: true; the input reads as it did. -/
def labelPairsSpec : ChangeSpec := { name := "labelPairs", fn := fun _ => fun
  | [d1, d2] => { results := [.lit (.bool true)], args := [d1, d2] }
  | _ => none }
def labelPairsRow : OpenClaim := { program := "ytgnifdkoaajboaa", sum := "a3a768c60e86902716efb62cad2809a7d2220be3e0e82564fa7e2f887a856bf1", func := "alluvium/alluviumlaw06.LabelPairs", spec := "labelPairs", inPlace := ["internal/abi.NoEscape", "internal/bytealg.IndexByteString", "internal/bytealg.IndexString"], unfollowed := true, recurses := true, named := ["internal/bytealg.MaxLen"], apart := false }
def LabelPairsSaid : Prop := labelPairsRow.holds Try.pinned (OpenSpec.ofChange labelPairsSpec)

/-- ITS FALSE NEIGHBOUR: 'it returns false'. Refute it at one input. -/
def labelPairsWrong : ChangeSpec := { name := "labelPairs", fn := fun _ => fun
  | [d1, d2] => { results := [.lit (.bool false)], args := [d1, d2] }
  | _ => none }
def LabelPairsWrongFalsely : Prop := labelPairsRow.holds Try.pinned (OpenSpec.ofChange labelPairsWrong)

/-- 'alluviumlaw06.LabelBack': WHATEVER THE INPUT: true; the input reads as it did. -/
def labelBackSpec : ChangeSpec := { name := "labelBack", fn := fun _ => fun
  | [d1, d2] => { results := [.lit (.bool true)], args := [d1, d2] }
  | _ => none }
def labelBackRow : OpenClaim := { program := "ytgnifdkoaajboaa", sum := "a3a768c60e86902716efb62cad2809a7d2220be3e0e82564fa7e2f887a856bf1", func := "alluvium/alluviumlaw06.LabelBack", spec := "labelBack", inPlace := ["internal/abi.NoEscape", "internal/bytealg.IndexByteString", "internal/bytealg.IndexString"], unfollowed := true, recurses := true, named := ["internal/bytealg.MaxLen"], apart := false }
def LabelBackSaid : Prop := labelBackRow.holds Try.pinned (OpenSpec.ofChange labelBackSpec)

/-- ITS FALSE NEIGHBOUR: 'it returns false'. Refute it at one input. -/
def labelBackWrong : ChangeSpec := { name := "labelBack", fn := fun _ => fun
  | [d1, d2] => { results := [.lit (.bool false)], args := [d1, d2] }
  | _ => none }
def LabelBackWrongFalsely : Prop := labelBackRow.holds Try.pinned (OpenSpec.ofChange labelBackWrong)

/-- 'alluviumlaw06.LabelOnly': WHATEVER THE INPUT: true; the input reads as it did. -/
def labelOnlySpec : ChangeSpec := { name := "labelOnly", fn := fun _ => fun
  | [d] => { results := [.lit (.bool true)], args := [d] }
  | _ => none }
def labelOnlyRow : OpenClaim := { program := "ytgnifdkoaajboaa", sum := "a3a768c60e86902716efb62cad2809a7d2220be3e0e82564fa7e2f887a856bf1", func := "alluvium/alluviumlaw06.LabelOnly", spec := "labelOnly", inPlace := ["internal/abi.NoEscape", "internal/bytealg.IndexByteString", "internal/bytealg.IndexString"], unfollowed := true, recurses := true, named := ["internal/bytealg.MaxLen"], apart := false }
def LabelOnlySaid : Prop := labelOnlyRow.holds Try.pinned (OpenSpec.ofChange labelOnlySpec)

/-- ITS FALSE NEIGHBOUR: 'it returns false'. Refute it at one input. -/
def labelOnlyWrong : ChangeSpec := { name := "labelOnly", fn := fun _ => fun
  | [d] => { results := [.lit (.bool false)], args := [d] }
  | _ => none }
def LabelOnlyWrongFalsely : Prop := labelOnlyRow.holds Try.pinned (OpenSpec.ofChange labelOnlyWrong)

/-- 'alluviumlaw06.LabelLess': WHATEVER THE INPUT: true; the input reads as it did. -/
def labelLessSpec : ChangeSpec := { name := "labelLess", fn := fun _ => fun
  | [d1, d2] => { results := [.lit (.bool true)], args := [d1, d2] }
  | _ => none }
def labelLessRow : OpenClaim := { program := "ytgnifdkoaajboaa", sum := "a3a768c60e86902716efb62cad2809a7d2220be3e0e82564fa7e2f887a856bf1", func := "alluvium/alluviumlaw06.LabelLess", spec := "labelLess", inPlace := ["internal/abi.NoEscape", "internal/bytealg.IndexByteString", "internal/bytealg.IndexString"], unfollowed := true, recurses := true, named := ["internal/bytealg.MaxLen"], apart := false }
def LabelLessSaid : Prop := labelLessRow.holds Try.pinned (OpenSpec.ofChange labelLessSpec)

/-- ITS FALSE NEIGHBOUR: 'it returns false'. Refute it at one input. -/
def labelLessWrong : ChangeSpec := { name := "labelLess", fn := fun _ => fun
  | [d1, d2] => { results := [.lit (.bool false)], args := [d1, d2] }
  | _ => none }
def LabelLessWrongFalsely : Prop := labelLessRow.holds Try.pinned (OpenSpec.ofChange labelLessWrong)

/-- 'alluviumlaw06.LabelOrder': WHATEVER THE INPUT: true; the input reads as it did. -/
def labelOrderSpec : ChangeSpec := { name := "labelOrder", fn := fun _ => fun
  | [d1, d2, d3] => { results := [.lit (.bool true)], args := [d1, d2, d3] }
  | _ => none }
def labelOrderRow : OpenClaim := { program := "ytgnifdkoaajboaa", sum := "a3a768c60e86902716efb62cad2809a7d2220be3e0e82564fa7e2f887a856bf1", func := "alluvium/alluviumlaw06.LabelOrder", spec := "labelOrder", inPlace := ["internal/abi.NoEscape", "internal/bytealg.IndexByteString", "internal/bytealg.IndexString"], unfollowed := true, recurses := true, named := ["internal/bytealg.MaxLen"], apart := false }
def LabelOrderSaid : Prop := labelOrderRow.holds Try.pinned (OpenSpec.ofChange labelOrderSpec)

/-- ITS FALSE NEIGHBOUR: 'it returns false'. Refute it at one input. -/
def labelOrderWrong : ChangeSpec := { name := "labelOrder", fn := fun _ => fun
  | [d1, d2, d3] => { results := [.lit (.bool false)], args := [d1, d2, d3] }
  | _ => none }
def LabelOrderWrongFalsely : Prop := labelOrderRow.holds Try.pinned (OpenSpec.ofChange labelOrderWrong)

/-- 'alluviumlaw06.LabelLimits': WHATEVER THE INPUT: true; the input reads as it did. -/
def labelLimitsSpec : ChangeSpec := { name := "labelLimits", fn := fun _ => fun
  | [d1, d2, d3] => { results := [.lit (.bool true)], args := [d1, d2, d3] }
  | _ => none }
def labelLimitsRow : OpenClaim := { program := "ytgnifdkoaajboaa", sum := "a3a768c60e86902716efb62cad2809a7d2220be3e0e82564fa7e2f887a856bf1", func := "alluvium/alluviumlaw06.LabelLimits", spec := "labelLimits", inPlace := ["internal/abi.NoEscape", "internal/bytealg.IndexByteString", "internal/bytealg.IndexString"], unfollowed := true, recurses := true, named := ["internal/bytealg.MaxLen"], apart := false }
def LabelLimitsSaid : Prop := labelLimitsRow.holds Try.pinned (OpenSpec.ofChange labelLimitsSpec)

/-- ITS FALSE NEIGHBOUR: 'it returns false'. Refute it at one input. -/
def labelLimitsWrong : ChangeSpec := { name := "labelLimits", fn := fun _ => fun
  | [d1, d2, d3] => { results := [.lit (.bool false)], args := [d1, d2, d3] }
  | _ => none }
def LabelLimitsWrongFalsely : Prop := labelLimitsRow.holds Try.pinned (OpenSpec.ofChange labelLimitsWrong)

/- THE SECOND FORM. 'bulk': how many values and letters a reading holds, each counted each time it is reached (what is shared counts as often as it is met; a slice's spare places count too). A statement '..UptoSaid' is the law's where the arguments, and the package variables that the reading takes, are together of bulk at most 1048576: NARROWER than '..Said'. Prove '..Said' where nothing that the law and all that it calls make is longer than what came in: it says more and counts as full. Else prove '..UptoSaid'. A law counts once. -/
mutual
def uptoBulk {H : Type} : DataW H → Nat
  | .lit (.string bytes) => bytes.length + 1
  | .lit _ => 1
  | .nil => 1
  | .ptr d => uptoBulk d + 1
  | .slice elems spare => uptoBulkAll elems + uptoBulkAll spare + 1
  | .agg parts => uptoBulkAll parts + 1
  | .iface _ d => uptoBulk d + 1
  | .map entries => uptoBulkEntries entries + 1
  | .held _ => 1
def uptoBulkAll {H : Type} : List (DataW H) → Nat
  | [] => 0
  | d :: r => uptoBulk d + uptoBulkAll r
def uptoBulkEntries {H : Type} : List (Lit × DataW H) → Nat
  | [] => 0
  | x :: r => uptoBulkEntry x + uptoBulkEntries r
def uptoBulkEntry {H : Type} : Lit × DataW H → Nat
  | (.string bytes, d) => bytes.length + uptoBulk d + 1
  | (_, d) => uptoBulk d + 1
 end
def uptoSmall : (H : Type) → List (DataW H) → Bool := fun _ ds => decide (uptoBulkAll ds ≤ 1048576)
def OpenSpec.upto (s : _root_.Go.ChangeSpec) : _root_.Go.OpenSpec := { _root_.Go.OpenSpec.ofChange s with cond := some uptoSmall }

/-- 'alluviumlaw06.LabelTells', WHERE WHAT IT READS IS OF BULK AT MOST 1048576: true; the input reads as it did. -/
def labelTellsUptoRow : OpenClaim := { program := "ytgnifdkoaajboaa", sum := "a3a768c60e86902716efb62cad2809a7d2220be3e0e82564fa7e2f887a856bf1", func := "alluvium/alluviumlaw06.LabelTells", spec := "labelTells", inPlace := ["internal/abi.NoEscape", "internal/bytealg.IndexByteString", "internal/bytealg.IndexString"], unfollowed := true, recurses := true, named := ["internal/bytealg.MaxLen"], apart := false, narrowed := true }
def LabelTellsUptoSaid : Prop := labelTellsUptoRow.holds Try.pinned (OpenSpec.upto labelTellsSpec)

/-- 'alluviumlaw06.LabelReads', WHERE WHAT IT READS IS OF BULK AT MOST 1048576: true; the input reads as it did. -/
def labelReadsUptoRow : OpenClaim := { program := "ytgnifdkoaajboaa", sum := "a3a768c60e86902716efb62cad2809a7d2220be3e0e82564fa7e2f887a856bf1", func := "alluvium/alluviumlaw06.LabelReads", spec := "labelReads", inPlace := ["internal/abi.NoEscape", "internal/bytealg.IndexByteString", "internal/bytealg.IndexString"], unfollowed := true, recurses := true, named := ["internal/bytealg.MaxLen"], apart := false, narrowed := true }
def LabelReadsUptoSaid : Prop := labelReadsUptoRow.holds Try.pinned (OpenSpec.upto labelReadsSpec)

/-- 'alluviumlaw06.LabelPairs', WHERE WHAT IT READS IS OF BULK AT MOST 1048576: true; the input reads as it did. -/
def labelPairsUptoRow : OpenClaim := { program := "ytgnifdkoaajboaa", sum := "a3a768c60e86902716efb62cad2809a7d2220be3e0e82564fa7e2f887a856bf1", func := "alluvium/alluviumlaw06.LabelPairs", spec := "labelPairs", inPlace := ["internal/abi.NoEscape", "internal/bytealg.IndexByteString", "internal/bytealg.IndexString"], unfollowed := true, recurses := true, named := ["internal/bytealg.MaxLen"], apart := false, narrowed := true }
def LabelPairsUptoSaid : Prop := labelPairsUptoRow.holds Try.pinned (OpenSpec.upto labelPairsSpec)

/-- 'alluviumlaw06.LabelBack', WHERE WHAT IT READS IS OF BULK AT MOST 1048576: true; the input reads as it did. -/
def labelBackUptoRow : OpenClaim := { program := "ytgnifdkoaajboaa", sum := "a3a768c60e86902716efb62cad2809a7d2220be3e0e82564fa7e2f887a856bf1", func := "alluvium/alluviumlaw06.LabelBack", spec := "labelBack", inPlace := ["internal/abi.NoEscape", "internal/bytealg.IndexByteString", "internal/bytealg.IndexString"], unfollowed := true, recurses := true, named := ["internal/bytealg.MaxLen"], apart := false, narrowed := true }
def LabelBackUptoSaid : Prop := labelBackUptoRow.holds Try.pinned (OpenSpec.upto labelBackSpec)

/-- 'alluviumlaw06.LabelOnly', WHERE WHAT IT READS IS OF BULK AT MOST 1048576: true; the input reads as it did. -/
def labelOnlyUptoRow : OpenClaim := { program := "ytgnifdkoaajboaa", sum := "a3a768c60e86902716efb62cad2809a7d2220be3e0e82564fa7e2f887a856bf1", func := "alluvium/alluviumlaw06.LabelOnly", spec := "labelOnly", inPlace := ["internal/abi.NoEscape", "internal/bytealg.IndexByteString", "internal/bytealg.IndexString"], unfollowed := true, recurses := true, named := ["internal/bytealg.MaxLen"], apart := false, narrowed := true }
def LabelOnlyUptoSaid : Prop := labelOnlyUptoRow.holds Try.pinned (OpenSpec.upto labelOnlySpec)

/-- 'alluviumlaw06.LabelLess', WHERE WHAT IT READS IS OF BULK AT MOST 1048576: true; the input reads as it did. -/
def labelLessUptoRow : OpenClaim := { program := "ytgnifdkoaajboaa", sum := "a3a768c60e86902716efb62cad2809a7d2220be3e0e82564fa7e2f887a856bf1", func := "alluvium/alluviumlaw06.LabelLess", spec := "labelLess", inPlace := ["internal/abi.NoEscape", "internal/bytealg.IndexByteString", "internal/bytealg.IndexString"], unfollowed := true, recurses := true, named := ["internal/bytealg.MaxLen"], apart := false, narrowed := true }
def LabelLessUptoSaid : Prop := labelLessUptoRow.holds Try.pinned (OpenSpec.upto labelLessSpec)

/-- 'alluviumlaw06.LabelOrder', WHERE WHAT IT READS IS OF BULK AT MOST 1048576: true; the input reads as it did. -/
def labelOrderUptoRow : OpenClaim := { program := "ytgnifdkoaajboaa", sum := "a3a768c60e86902716efb62cad2809a7d2220be3e0e82564fa7e2f887a856bf1", func := "alluvium/alluviumlaw06.LabelOrder", spec := "labelOrder", inPlace := ["internal/abi.NoEscape", "internal/bytealg.IndexByteString", "internal/bytealg.IndexString"], unfollowed := true, recurses := true, named := ["internal/bytealg.MaxLen"], apart := false, narrowed := true }
def LabelOrderUptoSaid : Prop := labelOrderUptoRow.holds Try.pinned (OpenSpec.upto labelOrderSpec)

/-- 'alluviumlaw06.LabelLimits', WHERE WHAT IT READS IS OF BULK AT MOST 1048576: true; the input reads as it did. -/
def labelLimitsUptoRow : OpenClaim := { program := "ytgnifdkoaajboaa", sum := "a3a768c60e86902716efb62cad2809a7d2220be3e0e82564fa7e2f887a856bf1", func := "alluvium/alluviumlaw06.LabelLimits", spec := "labelLimits", inPlace := ["internal/abi.NoEscape", "internal/bytealg.IndexByteString", "internal/bytealg.IndexString"], unfollowed := true, recurses := true, named := ["internal/bytealg.MaxLen"], apart := false, narrowed := true }
def LabelLimitsUptoSaid : Prop := labelLimitsUptoRow.holds Try.pinned (OpenSpec.upto labelLimitsSpec)

end Rows
end Go.Proofs.Ytgnifdkoaajboaa
