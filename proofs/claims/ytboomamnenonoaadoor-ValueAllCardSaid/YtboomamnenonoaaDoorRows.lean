/-
  NARROWER THAN 'FOR EVERY INPUT', by the rows' own cells (each row's printed sentence says how): ValueAll: laid · ValueBack: laid · ValueStays: laid · ValueTurned: laid · ValueSteady: laid.
  DERIVED. THE GIVEN ROWS OF THIS SEAT. 5 by the template 'for every input the law returns true; each argument reads behind the call as it read before'; 0 by the template 'total and deterministic' (their statements: YtboomamnenonoaaDoorTotals.lean).
  GIVEN WITH THE SEED: the statements are not yours to turn. If you find one false, say at which input.
  Laid BY PROGRAM, IN A SANDBOX (cutbox-rows.mjs): the forced cells as the released guide's own fill.sh prints them over the translation dae03f10803b7f48… (all of the seat's roots in one cut). By AI agents, Wed Nov 11 2026. No macro, syntax, notation, axiom, sorry.
-/
import Derived.Test.YtboomamnenonoaaDoorChecked
import GoSem.Claim
import GoSem.ClaimJoined
import GoSem.ClaimMapViews
import Derived.JoinedTies
import Derived.KernelRfl
namespace Go.Proofs.YtboomamnenonoaaDoor
/- THE CELL 'sum', in the pinned program and in every row, IS THE sha256 OF THE DUMP (.gsa) THAT YtboomamnenonoaaDoorProg.lean LOADS. Nothing in Lean hashes anything: it is a label: what it is worth is what the hold of that sum in a sandbox is worth. -/
noncomputable def Tryd.pinned : Pinned := { name := "ytboomamnenonoaadoor", sum := "dae03f10803b7f4830b39490affb0ee67acca72eb8ebb58b437449a1d9c2c2c9", checked := Tryd.checked }
namespace Rows
def none {H : Type} : Left H := { results := [], args := [] }

/- WHAT THE LISTED PACKAGE-LEVEL VARIABLES READ AS WHEN THE CALL BEGINS. Each datum BY PROGRAM (the guide's laid-datum.mjs) off the statement by which the dump's own 'gosem.cut.vars' lays the variable. In a bare row this is a premise. The card (YtboomamnenonoaaDoorCards.lean) ties it to the program's text. -/
def laid_math_bits_deBruijn64tab {H : Type} : DataW H := .agg [.lit (.int .u8 0), .lit (.int .u8 1), .lit (.int .u8 56), .lit (.int .u8 2), .lit (.int .u8 57), .lit (.int .u8 49), .lit (.int .u8 28), .lit (.int .u8 3), .lit (.int .u8 61), .lit (.int .u8 58), .lit (.int .u8 42), .lit (.int .u8 50), .lit (.int .u8 38), .lit (.int .u8 29), .lit (.int .u8 17), .lit (.int .u8 4), .lit (.int .u8 62), .lit (.int .u8 47), .lit (.int .u8 59), .lit (.int .u8 36), .lit (.int .u8 45), .lit (.int .u8 43), .lit (.int .u8 51), .lit (.int .u8 22), .lit (.int .u8 53), .lit (.int .u8 39), .lit (.int .u8 33), .lit (.int .u8 30), .lit (.int .u8 24), .lit (.int .u8 18), .lit (.int .u8 12), .lit (.int .u8 5), .lit (.int .u8 63), .lit (.int .u8 55), .lit (.int .u8 48), .lit (.int .u8 27), .lit (.int .u8 60), .lit (.int .u8 41), .lit (.int .u8 37), .lit (.int .u8 16), .lit (.int .u8 46), .lit (.int .u8 35), .lit (.int .u8 44), .lit (.int .u8 21), .lit (.int .u8 52), .lit (.int .u8 32), .lit (.int .u8 23), .lit (.int .u8 11), .lit (.int .u8 54), .lit (.int .u8 26), .lit (.int .u8 40), .lit (.int .u8 15), .lit (.int .u8 34), .lit (.int .u8 20), .lit (.int .u8 31), .lit (.int .u8 10), .lit (.int .u8 25), .lit (.int .u8 14), .lit (.int .u8 19), .lit (.int .u8 9), .lit (.int .u8 13), .lit (.int .u8 8), .lit (.int .u8 7), .lit (.int .u8 6)]

/-- 'alluviumlaw05.ValueAll': WHATEVER THE INPUT: true; the input reads as it did. -/
def valueAllSpec : ChangeSpec := { name := "valueAll", fn := fun _ => fun
  | [d1, d2, d3] => { results := [.lit (.bool true)], args := [d1, d2, d3] }
  | _ => none }
def valueAllRow : OpenClaim := { program := "ytboomamnenonoaadoor", sum := "dae03f10803b7f4830b39490affb0ee67acca72eb8ebb58b437449a1d9c2c2c9", func := "alluvium/alluviumlaw05.ValueAll", spec := "valueAll", unfollowed := true, recurses := true, named := ["math/bits.deBruijn64tab"], apart := false, laid := [("math/bits.deBruijn64tab", laid_math_bits_deBruijn64tab)] }
def ValueAllSaid : Prop := valueAllRow.holds Tryd.pinned (OpenSpec.ofChange valueAllSpec)

/-- ITS FALSE NEIGHBOUR: 'it returns false'. Refute it at one input. -/
def valueAllWrong : ChangeSpec := { name := "valueAll", fn := fun _ => fun
  | [d1, d2, d3] => { results := [.lit (.bool false)], args := [d1, d2, d3] }
  | _ => none }
def ValueAllWrongFalsely : Prop := valueAllRow.holds Tryd.pinned (OpenSpec.ofChange valueAllWrong)

/-- 'alluviumlaw05.ValueBack': WHATEVER THE INPUT: true; the input reads as it did. -/
def valueBackSpec : ChangeSpec := { name := "valueBack", fn := fun _ => fun
  | [d1, d2, d3] => { results := [.lit (.bool true)], args := [d1, d2, d3] }
  | _ => none }
def valueBackRow : OpenClaim := { program := "ytboomamnenonoaadoor", sum := "dae03f10803b7f4830b39490affb0ee67acca72eb8ebb58b437449a1d9c2c2c9", func := "alluvium/alluviumlaw05.ValueBack", spec := "valueBack", unfollowed := true, recurses := true, named := ["math/bits.deBruijn64tab"], apart := false, laid := [("math/bits.deBruijn64tab", laid_math_bits_deBruijn64tab)] }
def ValueBackSaid : Prop := valueBackRow.holds Tryd.pinned (OpenSpec.ofChange valueBackSpec)

/-- ITS FALSE NEIGHBOUR: 'it returns false'. Refute it at one input. -/
def valueBackWrong : ChangeSpec := { name := "valueBack", fn := fun _ => fun
  | [d1, d2, d3] => { results := [.lit (.bool false)], args := [d1, d2, d3] }
  | _ => none }
def ValueBackWrongFalsely : Prop := valueBackRow.holds Tryd.pinned (OpenSpec.ofChange valueBackWrong)

/-- 'alluviumlaw05.ValueStays': WHATEVER THE INPUT: true; the input reads as it did. -/
def valueStaysSpec : ChangeSpec := { name := "valueStays", fn := fun _ => fun
  | [d1, d2] => { results := [.lit (.bool true)], args := [d1, d2] }
  | _ => none }
def valueStaysRow : OpenClaim := { program := "ytboomamnenonoaadoor", sum := "dae03f10803b7f4830b39490affb0ee67acca72eb8ebb58b437449a1d9c2c2c9", func := "alluvium/alluviumlaw05.ValueStays", spec := "valueStays", unfollowed := true, recurses := true, named := ["math/bits.deBruijn64tab"], apart := false, laid := [("math/bits.deBruijn64tab", laid_math_bits_deBruijn64tab)] }
def ValueStaysSaid : Prop := valueStaysRow.holds Tryd.pinned (OpenSpec.ofChange valueStaysSpec)

/-- ITS FALSE NEIGHBOUR: 'it returns false'. Refute it at one input. -/
def valueStaysWrong : ChangeSpec := { name := "valueStays", fn := fun _ => fun
  | [d1, d2] => { results := [.lit (.bool false)], args := [d1, d2] }
  | _ => none }
def ValueStaysWrongFalsely : Prop := valueStaysRow.holds Tryd.pinned (OpenSpec.ofChange valueStaysWrong)

/-- 'alluviumlaw05.ValueTurned': WHATEVER THE INPUT: true; the input reads as it did. -/
def valueTurnedSpec : ChangeSpec := { name := "valueTurned", fn := fun _ => fun
  | [d1, d2] => { results := [.lit (.bool true)], args := [d1, d2] }
  | _ => none }
def valueTurnedRow : OpenClaim := { program := "ytboomamnenonoaadoor", sum := "dae03f10803b7f4830b39490affb0ee67acca72eb8ebb58b437449a1d9c2c2c9", func := "alluvium/alluviumlaw05.ValueTurned", spec := "valueTurned", unfollowed := true, recurses := true, named := ["math/bits.deBruijn64tab"], apart := false, laid := [("math/bits.deBruijn64tab", laid_math_bits_deBruijn64tab)] }
def ValueTurnedSaid : Prop := valueTurnedRow.holds Tryd.pinned (OpenSpec.ofChange valueTurnedSpec)

/-- ITS FALSE NEIGHBOUR: 'it returns false'. Refute it at one input. -/
def valueTurnedWrong : ChangeSpec := { name := "valueTurned", fn := fun _ => fun
  | [d1, d2] => { results := [.lit (.bool false)], args := [d1, d2] }
  | _ => none }
def ValueTurnedWrongFalsely : Prop := valueTurnedRow.holds Tryd.pinned (OpenSpec.ofChange valueTurnedWrong)

/-- 'alluviumlaw05.ValueSteady': WHATEVER THE INPUT: true; the input reads as it did. -/
def valueSteadySpec : ChangeSpec := { name := "valueSteady", fn := fun _ => fun
  | [d1, d2] => { results := [.lit (.bool true)], args := [d1, d2] }
  | _ => none }
def valueSteadyRow : OpenClaim := { program := "ytboomamnenonoaadoor", sum := "dae03f10803b7f4830b39490affb0ee67acca72eb8ebb58b437449a1d9c2c2c9", func := "alluvium/alluviumlaw05.ValueSteady", spec := "valueSteady", unfollowed := true, recurses := true, named := ["math/bits.deBruijn64tab"], apart := false, laid := [("math/bits.deBruijn64tab", laid_math_bits_deBruijn64tab)] }
def ValueSteadySaid : Prop := valueSteadyRow.holds Tryd.pinned (OpenSpec.ofChange valueSteadySpec)

/-- ITS FALSE NEIGHBOUR: 'it returns false'. Refute it at one input. -/
def valueSteadyWrong : ChangeSpec := { name := "valueSteady", fn := fun _ => fun
  | [d1, d2] => { results := [.lit (.bool false)], args := [d1, d2] }
  | _ => none }
def ValueSteadyWrongFalsely : Prop := valueSteadyRow.holds Tryd.pinned (OpenSpec.ofChange valueSteadyWrong)

/- THE SECOND FORM. 'bulk': how many values and letters a reading holds, each counted each time it is reached (what is shared counts as often as it is met; a slice's spare places count too). A statement '..UptoSaid' is the law's where the arguments, and the package variables that the reading takes, are together of bulk at most 1048576: NARROWER than '..Said'. Prove '..Said' where nothing that the law and all that it calls make is longer than what came in: it says more and counts as full. Else prove '..UptoSaid'. A law counts once. -/
mutual
def uptoBulk {H : Type} : DataW H → Nat
  | .lit (.string bytes) => bytes.length + 1
  | .lit _ => 1
  | .nil => 1
  | .ptr d => uptoBulk d + 1
  | .slice elems spare => uptoBulkAll elems + uptoBulkAll spare + 1
  | .agg parts => uptoBulkAll parts + 1
  | .iface _ d => uptoBulk d + 1
  | .map entries => uptoBulkEntries entries + 1
  | .held _ => 1
def uptoBulkAll {H : Type} : List (DataW H) → Nat
  | [] => 0
  | d :: r => uptoBulk d + uptoBulkAll r
def uptoBulkEntries {H : Type} : List (Lit × DataW H) → Nat
  | [] => 0
  | x :: r => uptoBulkEntry x + uptoBulkEntries r
def uptoBulkEntry {H : Type} : Lit × DataW H → Nat
  | (.string bytes, d) => bytes.length + uptoBulk d + 1
  | (_, d) => uptoBulk d + 1
 end
def uptoSmall : (H : Type) → List (DataW H) → Bool := fun _ ds => decide (uptoBulkAll ds ≤ 1048576)
def OpenSpec.upto (s : _root_.Go.ChangeSpec) : _root_.Go.OpenSpec := { _root_.Go.OpenSpec.ofChange s with cond := some uptoSmall }

/-- 'alluviumlaw05.ValueAll', WHERE WHAT IT READS IS OF BULK AT MOST 1048576: true; the input reads as it did. -/
def valueAllUptoRow : OpenClaim := { program := "ytboomamnenonoaadoor", sum := "dae03f10803b7f4830b39490affb0ee67acca72eb8ebb58b437449a1d9c2c2c9", func := "alluvium/alluviumlaw05.ValueAll", spec := "valueAll", unfollowed := true, recurses := true, named := ["math/bits.deBruijn64tab"], apart := false, laid := [("math/bits.deBruijn64tab", laid_math_bits_deBruijn64tab)], narrowed := true }
def ValueAllUptoSaid : Prop := valueAllUptoRow.holds Tryd.pinned (OpenSpec.upto valueAllSpec)

/-- 'alluviumlaw05.ValueBack', WHERE WHAT IT READS IS OF BULK AT MOST 1048576: true; the input reads as it did. -/
def valueBackUptoRow : OpenClaim := { program := "ytboomamnenonoaadoor", sum := "dae03f10803b7f4830b39490affb0ee67acca72eb8ebb58b437449a1d9c2c2c9", func := "alluvium/alluviumlaw05.ValueBack", spec := "valueBack", unfollowed := true, recurses := true, named := ["math/bits.deBruijn64tab"], apart := false, laid := [("math/bits.deBruijn64tab", laid_math_bits_deBruijn64tab)], narrowed := true }
def ValueBackUptoSaid : Prop := valueBackUptoRow.holds Tryd.pinned (OpenSpec.upto valueBackSpec)

/-- 'alluviumlaw05.ValueStays', WHERE WHAT IT READS IS OF BULK AT MOST 1048576: true; the input reads as it did. -/
def valueStaysUptoRow : OpenClaim := { program := "ytboomamnenonoaadoor", sum := "dae03f10803b7f4830b39490affb0ee67acca72eb8ebb58b437449a1d9c2c2c9", func := "alluvium/alluviumlaw05.ValueStays", spec := "valueStays", unfollowed := true, recurses := true, named := ["math/bits.deBruijn64tab"], apart := false, laid := [("math/bits.deBruijn64tab", laid_math_bits_deBruijn64tab)], narrowed := true }
def ValueStaysUptoSaid : Prop := valueStaysUptoRow.holds Tryd.pinned (OpenSpec.upto valueStaysSpec)

/-- 'alluviumlaw05.ValueTurned', WHERE WHAT IT READS IS OF BULK AT MOST 1048576: true; the input reads as it did. -/
def valueTurnedUptoRow : OpenClaim := { program := "ytboomamnenonoaadoor", sum := "dae03f10803b7f4830b39490affb0ee67acca72eb8ebb58b437449a1d9c2c2c9", func := "alluvium/alluviumlaw05.ValueTurned", spec := "valueTurned", unfollowed := true, recurses := true, named := ["math/bits.deBruijn64tab"], apart := false, laid := [("math/bits.deBruijn64tab", laid_math_bits_deBruijn64tab)], narrowed := true }
def ValueTurnedUptoSaid : Prop := valueTurnedUptoRow.holds Tryd.pinned (OpenSpec.upto valueTurnedSpec)

/-- 'alluviumlaw05.ValueSteady', WHERE WHAT IT READS IS OF BULK AT MOST 1048576: true; the input reads as it did. -/
def valueSteadyUptoRow : OpenClaim := { program := "ytboomamnenonoaadoor", sum := "dae03f10803b7f4830b39490affb0ee67acca72eb8ebb58b437449a1d9c2c2c9", func := "alluvium/alluviumlaw05.ValueSteady", spec := "valueSteady", unfollowed := true, recurses := true, named := ["math/bits.deBruijn64tab"], apart := false, laid := [("math/bits.deBruijn64tab", laid_math_bits_deBruijn64tab)], narrowed := true }
def ValueSteadyUptoSaid : Prop := valueSteadyUptoRow.holds Tryd.pinned (OpenSpec.upto valueSteadySpec)

end Rows
end Go.Proofs.YtboomamnenonoaaDoor
