/-
  No cell of these rows narrows 'for every input' (looked for: loops, veiled, ifaces, maps, wideKeys, modest, calm, conditions, laid).
  DERIVED. THE GIVEN ROWS OF THIS SEAT. 6 by the template 'for every input the law returns true; each argument reads behind the call as it read before'; 0 by the template 'total and deterministic' (their statements: YtdjgndnllaingaaTotals.lean).
  GIVEN WITH THE SEED: the statements are not yours to turn. If you find one false, say at which input.
  Laid BY PROGRAM, IN A SANDBOX (cutbox-rows.mjs): the forced cells as the released guide's own fill.sh prints them over the translation 7e933b1c525bbc3e… (all of the seat's roots in one cut). By AI agents, Wed Nov 11 2026. No macro, syntax, notation, axiom, sorry.
-/
import Derived.Test.YtdjgndnllaingaaChecked
import GoSem.Claim
import GoSem.ClaimJoined
import GoSem.ClaimMapViews
import Derived.JoinedTies
import Derived.KernelRfl
namespace Go.Proofs.Ytdjgndnllaingaa
/- THE CELL 'sum', in the pinned program and in every row, IS THE sha256 OF THE DUMP (.gsa) THAT YtdjgndnllaingaaProg.lean LOADS. Nothing in Lean hashes anything: it is a label: what it is worth is what the hold of that sum in a sandbox is worth. -/
noncomputable def Try.pinned : Pinned := { name := "ytdjgndnllaingaa", sum := "7e933b1c525bbc3eec1d0636a7011b566734bdc0935acf32795b7d70a52c94da", checked := Try.checked }
namespace Rows
def none {H : Type} : Left H := { results := [], args := [] }

/-- 'alluviumlaw08.TruthTells': WHATEVER THE INPUT: true; the input reads as it did. -/
def truthTellsSpec : ChangeSpec := { name := "truthTells", fn := fun _ => fun
  | [d1, d2] => { results := [.lit (.bool true)], args := [d1, d2] }
  | _ => none }
def truthTellsRow : OpenClaim := { program := "ytdjgndnllaingaa", sum := "7e933b1c525bbc3eec1d0636a7011b566734bdc0935acf32795b7d70a52c94da", func := "alluvium/alluviumlaw08.TruthTells", spec := "truthTells", inPlace := ["internal/abi.NoEscape", "slices.overlaps[alluvium/api.Series]"], unfollowed := true, recurses := true, plainKeys := false, apart := false }
def TruthTellsSaid : Prop := truthTellsRow.holds Try.pinned (OpenSpec.ofChange truthTellsSpec)

/-- ITS FALSE NEIGHBOUR: 'it returns false'. Refute it at one input. -/
def truthTellsWrong : ChangeSpec := { name := "truthTells", fn := fun _ => fun
  | [d1, d2] => { results := [.lit (.bool false)], args := [d1, d2] }
  | _ => none }
def TruthTellsWrongFalsely : Prop := truthTellsRow.holds Try.pinned (OpenSpec.ofChange truthTellsWrong)

/-- 'alluviumlaw08.TruthAsks': WHATEVER THE INPUT: true; the input reads as it did. -/
def truthAsksSpec : ChangeSpec := { name := "truthAsks", fn := fun _ => fun
  | [d1, d2] => { results := [.lit (.bool true)], args := [d1, d2] }
  | _ => none }
def truthAsksRow : OpenClaim := { program := "ytdjgndnllaingaa", sum := "7e933b1c525bbc3eec1d0636a7011b566734bdc0935acf32795b7d70a52c94da", func := "alluvium/alluviumlaw08.TruthAsks", spec := "truthAsks", inPlace := ["internal/abi.NoEscape", "slices.overlaps[alluvium/api.Series]"], unfollowed := true, recurses := true, plainKeys := false, apart := false }
def TruthAsksSaid : Prop := truthAsksRow.holds Try.pinned (OpenSpec.ofChange truthAsksSpec)

/-- ITS FALSE NEIGHBOUR: 'it returns false'. Refute it at one input. -/
def truthAsksWrong : ChangeSpec := { name := "truthAsks", fn := fun _ => fun
  | [d1, d2] => { results := [.lit (.bool false)], args := [d1, d2] }
  | _ => none }
def TruthAsksWrongFalsely : Prop := truthAsksRow.holds Try.pinned (OpenSpec.ofChange truthAsksWrong)

/-- 'alluviumlaw08.TruthRises': WHATEVER THE INPUT: true; the input reads as it did. -/
def truthRisesSpec : ChangeSpec := { name := "truthRises", fn := fun _ => fun
  | [d1, d2] => { results := [.lit (.bool true)], args := [d1, d2] }
  | _ => none }
def truthRisesRow : OpenClaim := { program := "ytdjgndnllaingaa", sum := "7e933b1c525bbc3eec1d0636a7011b566734bdc0935acf32795b7d70a52c94da", func := "alluvium/alluviumlaw08.TruthRises", spec := "truthRises", inPlace := ["internal/abi.NoEscape", "slices.overlaps[alluvium/api.Series]"], unfollowed := true, recurses := true, plainKeys := false, apart := false }
def TruthRisesSaid : Prop := truthRisesRow.holds Try.pinned (OpenSpec.ofChange truthRisesSpec)

/-- ITS FALSE NEIGHBOUR: 'it returns false'. Refute it at one input. -/
def truthRisesWrong : ChangeSpec := { name := "truthRises", fn := fun _ => fun
  | [d1, d2] => { results := [.lit (.bool false)], args := [d1, d2] }
  | _ => none }
def TruthRisesWrongFalsely : Prop := truthRisesRow.holds Try.pinned (OpenSpec.ofChange truthRisesWrong)

/-- 'alluviumlaw08.TruthOnce': WHATEVER THE INPUT: true; the input reads as it did. -/
def truthOnceSpec : ChangeSpec := { name := "truthOnce", fn := fun _ => fun
  | [d1, d2, d3, d4, d5] => { results := [.lit (.bool true)], args := [d1, d2, d3, d4, d5] }
  | _ => none }
def truthOnceRow : OpenClaim := { program := "ytdjgndnllaingaa", sum := "7e933b1c525bbc3eec1d0636a7011b566734bdc0935acf32795b7d70a52c94da", func := "alluvium/alluviumlaw08.TruthOnce", spec := "truthOnce", inPlace := ["internal/abi.NoEscape", "slices.overlaps[alluvium/api.Series]"], unfollowed := true, recurses := true, plainKeys := false, apart := false }
def TruthOnceSaid : Prop := truthOnceRow.holds Try.pinned (OpenSpec.ofChange truthOnceSpec)

/-- ITS FALSE NEIGHBOUR: 'it returns false'. Refute it at one input. -/
def truthOnceWrong : ChangeSpec := { name := "truthOnce", fn := fun _ => fun
  | [d1, d2, d3, d4, d5] => { results := [.lit (.bool false)], args := [d1, d2, d3, d4, d5] }
  | _ => none }
def TruthOnceWrongFalsely : Prop := truthOnceRow.holds Try.pinned (OpenSpec.ofChange truthOnceWrong)

/-- 'alluviumlaw08.TruthGone': WHATEVER THE INPUT: true; the input reads as it did. -/
def truthGoneSpec : ChangeSpec := { name := "truthGone", fn := fun _ => fun
  | [d1, d2, d3, d4] => { results := [.lit (.bool true)], args := [d1, d2, d3, d4] }
  | _ => none }
def truthGoneRow : OpenClaim := { program := "ytdjgndnllaingaa", sum := "7e933b1c525bbc3eec1d0636a7011b566734bdc0935acf32795b7d70a52c94da", func := "alluvium/alluviumlaw08.TruthGone", spec := "truthGone", inPlace := ["internal/abi.NoEscape", "slices.overlaps[alluvium/api.Series]"], unfollowed := true, recurses := true, plainKeys := false, apart := false }
def TruthGoneSaid : Prop := truthGoneRow.holds Try.pinned (OpenSpec.ofChange truthGoneSpec)

/-- ITS FALSE NEIGHBOUR: 'it returns false'. Refute it at one input. -/
def truthGoneWrong : ChangeSpec := { name := "truthGone", fn := fun _ => fun
  | [d1, d2, d3, d4] => { results := [.lit (.bool false)], args := [d1, d2, d3, d4] }
  | _ => none }
def TruthGoneWrongFalsely : Prop := truthGoneRow.holds Try.pinned (OpenSpec.ofChange truthGoneWrong)

/-- 'alluviumlaw08.TruthKeeps': WHATEVER THE INPUT: true; the input reads as it did. -/
def truthKeepsSpec : ChangeSpec := { name := "truthKeeps", fn := fun _ => fun
  | [d1, d2, d3] => { results := [.lit (.bool true)], args := [d1, d2, d3] }
  | _ => none }
def truthKeepsRow : OpenClaim := { program := "ytdjgndnllaingaa", sum := "7e933b1c525bbc3eec1d0636a7011b566734bdc0935acf32795b7d70a52c94da", func := "alluvium/alluviumlaw08.TruthKeeps", spec := "truthKeeps", inPlace := ["internal/abi.NoEscape", "slices.overlaps[alluvium/api.Series]"], unfollowed := true, recurses := true, plainKeys := false, apart := false }
def TruthKeepsSaid : Prop := truthKeepsRow.holds Try.pinned (OpenSpec.ofChange truthKeepsSpec)

/-- ITS FALSE NEIGHBOUR: 'it returns false'. Refute it at one input. -/
def truthKeepsWrong : ChangeSpec := { name := "truthKeeps", fn := fun _ => fun
  | [d1, d2, d3] => { results := [.lit (.bool false)], args := [d1, d2, d3] }
  | _ => none }
def TruthKeepsWrongFalsely : Prop := truthKeepsRow.holds Try.pinned (OpenSpec.ofChange truthKeepsWrong)

/- THE SECOND FORM. 'bulk': how many values and letters a reading holds, each counted each time it is reached (what is shared counts as often as it is met; a slice's spare places count too). A statement '..UptoSaid' is the law's where the arguments, and the package variables that the reading takes, are together of bulk at most 1048576: NARROWER than '..Said'. Prove '..Said' where nothing that the law and all that it calls make is longer than what came in: it says more and counts as full. Else prove '..UptoSaid'. A law counts once. -/
mutual
def uptoBulk {H : Type} : DataW H → Nat
  | .lit (.string bytes) => bytes.length + 1
  | .lit _ => 1
  | .nil => 1
  | .ptr d => uptoBulk d + 1
  | .slice elems spare => uptoBulkAll elems + uptoBulkAll spare + 1
  | .agg parts => uptoBulkAll parts + 1
  | .iface _ d => uptoBulk d + 1
  | .map entries => uptoBulkEntries entries + 1
  | .held _ => 1
def uptoBulkAll {H : Type} : List (DataW H) → Nat
  | [] => 0
  | d :: r => uptoBulk d + uptoBulkAll r
def uptoBulkEntries {H : Type} : List (Lit × DataW H) → Nat
  | [] => 0
  | x :: r => uptoBulkEntry x + uptoBulkEntries r
def uptoBulkEntry {H : Type} : Lit × DataW H → Nat
  | (.string bytes, d) => bytes.length + uptoBulk d + 1
  | (_, d) => uptoBulk d + 1
 end
def uptoSmall : (H : Type) → List (DataW H) → Bool := fun _ ds => decide (uptoBulkAll ds ≤ 1048576)
def OpenSpec.upto (s : _root_.Go.ChangeSpec) : _root_.Go.OpenSpec := { _root_.Go.OpenSpec.ofChange s with cond := some uptoSmall }

/-- 'alluviumlaw08.TruthTells', WHERE WHAT IT READS IS OF BULK AT MOST 1048576: true; the input reads as it did. -/
def truthTellsUptoRow : OpenClaim := { program := "ytdjgndnllaingaa", sum := "7e933b1c525bbc3eec1d0636a7011b566734bdc0935acf32795b7d70a52c94da", func := "alluvium/alluviumlaw08.TruthTells", spec := "truthTells", inPlace := ["internal/abi.NoEscape", "slices.overlaps[alluvium/api.Series]"], unfollowed := true, recurses := true, plainKeys := false, apart := false, narrowed := true }
def TruthTellsUptoSaid : Prop := truthTellsUptoRow.holds Try.pinned (OpenSpec.upto truthTellsSpec)

/-- 'alluviumlaw08.TruthAsks', WHERE WHAT IT READS IS OF BULK AT MOST 1048576: true; the input reads as it did. -/
def truthAsksUptoRow : OpenClaim := { program := "ytdjgndnllaingaa", sum := "7e933b1c525bbc3eec1d0636a7011b566734bdc0935acf32795b7d70a52c94da", func := "alluvium/alluviumlaw08.TruthAsks", spec := "truthAsks", inPlace := ["internal/abi.NoEscape", "slices.overlaps[alluvium/api.Series]"], unfollowed := true, recurses := true, plainKeys := false, apart := false, narrowed := true }
def TruthAsksUptoSaid : Prop := truthAsksUptoRow.holds Try.pinned (OpenSpec.upto truthAsksSpec)

/-- 'alluviumlaw08.TruthRises', WHERE WHAT IT READS IS OF BULK AT MOST 1048576: true; the input reads as it did. -/
def truthRisesUptoRow : OpenClaim := { program := "ytdjgndnllaingaa", sum := "7e933b1c525bbc3eec1d0636a7011b566734bdc0935acf32795b7d70a52c94da", func := "alluvium/alluviumlaw08.TruthRises", spec := "truthRises", inPlace := ["internal/abi.NoEscape", "slices.overlaps[alluvium/api.Series]"], unfollowed := true, recurses := true, plainKeys := false, apart := false, narrowed := true }
def TruthRisesUptoSaid : Prop := truthRisesUptoRow.holds Try.pinned (OpenSpec.upto truthRisesSpec)

/-- 'alluviumlaw08.TruthOnce', WHERE WHAT IT READS IS OF BULK AT MOST 1048576: true; the input reads as it did. -/
def truthOnceUptoRow : OpenClaim := { program := "ytdjgndnllaingaa", sum := "7e933b1c525bbc3eec1d0636a7011b566734bdc0935acf32795b7d70a52c94da", func := "alluvium/alluviumlaw08.TruthOnce", spec := "truthOnce", inPlace := ["internal/abi.NoEscape", "slices.overlaps[alluvium/api.Series]"], unfollowed := true, recurses := true, plainKeys := false, apart := false, narrowed := true }
def TruthOnceUptoSaid : Prop := truthOnceUptoRow.holds Try.pinned (OpenSpec.upto truthOnceSpec)

/-- 'alluviumlaw08.TruthGone', WHERE WHAT IT READS IS OF BULK AT MOST 1048576: true; the input reads as it did. -/
def truthGoneUptoRow : OpenClaim := { program := "ytdjgndnllaingaa", sum := "7e933b1c525bbc3eec1d0636a7011b566734bdc0935acf32795b7d70a52c94da", func := "alluvium/alluviumlaw08.TruthGone", spec := "truthGone", inPlace := ["internal/abi.NoEscape", "slices.overlaps[alluvium/api.Series]"], unfollowed := true, recurses := true, plainKeys := false, apart := false, narrowed := true }
def TruthGoneUptoSaid : Prop := truthGoneUptoRow.holds Try.pinned (OpenSpec.upto truthGoneSpec)

/-- 'alluviumlaw08.TruthKeeps', WHERE WHAT IT READS IS OF BULK AT MOST 1048576: true; the input reads as it did. -/
def truthKeepsUptoRow : OpenClaim := { program := "ytdjgndnllaingaa", sum := "7e933b1c525bbc3eec1d0636a7011b566734bdc0935acf32795b7d70a52c94da", func := "alluvium/alluviumlaw08.TruthKeeps", spec := "truthKeeps", inPlace := ["internal/abi.NoEscape", "slices.overlaps[alluvium/api.Series]"], unfollowed := true, recurses := true, plainKeys := false, apart := false, narrowed := true }
def TruthKeepsUptoSaid : Prop := truthKeepsUptoRow.holds Try.pinned (OpenSpec.upto truthKeepsSpec)

end Rows
end Go.Proofs.Ytdjgndnllaingaa
