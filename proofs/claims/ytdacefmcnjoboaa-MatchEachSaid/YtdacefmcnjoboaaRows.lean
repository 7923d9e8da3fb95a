/-
  No cell of these rows narrows 'for every input' (looked for: loops, veiled, ifaces, maps, wideKeys, modest, calm, conditions, laid).
  DERIVED. THE GIVEN ROWS OF THIS SEAT. 7 by the template 'for every input the law returns true; each argument reads behind the call as it read before'; 0 by the template 'total and deterministic' (their statements: YtdacefmcnjoboaaTotals.lean).
  GIVEN WITH THE SEED: the statements are not yours to turn. If you find one false, say at which input.
  Laid BY PROGRAM, IN A SANDBOX (cutbox-rows.mjs): the forced cells as the released guide's own fill.sh prints them over the translation 4b37da40e600cfa9… (all of the seat's roots in one cut). By AI agents, Wed Nov 11 2026. No macro, syntax, notation, axiom, sorry.
-/
import Derived.Test.YtdacefmcnjoboaaChecked
import GoSem.Claim
import GoSem.ClaimJoined
import GoSem.ClaimMapViews
import Derived.JoinedTies
import Derived.KernelRfl
namespace Go.Proofs.Ytdacefmcnjoboaa
/- THE CELL 'sum', in the pinned program and in every row, IS THE sha256 OF THE DUMP (.gsa) THAT YtdacefmcnjoboaaProg.lean LOADS. Nothing in Lean hashes anything: it is a label: what it is worth is what the hold of that sum in a sandbox is worth. -/
noncomputable def Try.pinned : Pinned := { name := "ytdacefmcnjoboaa", sum := "4b37da40e600cfa9bd1ea72ba466c6553f1a766a882af6e3d25e5792232d2777", checked := Try.checked }
namespace Rows
def none {H : Type} : Left H := { results := [], args := [] }

/-- 'alluviumlaw07.MatchFits': WHATEVER THE INPUT: true; the input reads as it did. -/
def matchFitsSpec : ChangeSpec := { name := "matchFits", fn := fun _ => fun
  | [d1, d2] => { results := [.lit (.bool true)], args := [d1, d2] }
  | _ => none }
def matchFitsRow : OpenClaim := { program := "ytdacefmcnjoboaa", sum := "4b37da40e600cfa9bd1ea72ba466c6553f1a766a882af6e3d25e5792232d2777", func := "alluvium/alluviumlaw07.MatchFits", spec := "matchFits", unfollowed := true, recurses := true, apart := false }
def MatchFitsSaid : Prop := matchFitsRow.holds Try.pinned (OpenSpec.ofChange matchFitsSpec)

/-- ITS FALSE NEIGHBOUR: 'it returns false'. Refute it at one input. -/
def matchFitsWrong : ChangeSpec := { name := "matchFits", fn := fun _ => fun
  | [d1, d2] => { results := [.lit (.bool false)], args := [d1, d2] }
  | _ => none }
def MatchFitsWrongFalsely : Prop := matchFitsRow.holds Try.pinned (OpenSpec.ofChange matchFitsWrong)

/-- 'alluviumlaw07.MatchBetween': WHATEVER THE INPUT: true; the input reads as it did. -/
def matchBetweenSpec : ChangeSpec := { name := "matchBetween", fn := fun _ => fun
  | [d1, d2, d3] => { results := [.lit (.bool true)], args := [d1, d2, d3] }
  | _ => none }
def matchBetweenRow : OpenClaim := { program := "ytdacefmcnjoboaa", sum := "4b37da40e600cfa9bd1ea72ba466c6553f1a766a882af6e3d25e5792232d2777", func := "alluvium/alluviumlaw07.MatchBetween", spec := "matchBetween", unfollowed := true, recurses := true, apart := false }
def MatchBetweenSaid : Prop := matchBetweenRow.holds Try.pinned (OpenSpec.ofChange matchBetweenSpec)

/-- ITS FALSE NEIGHBOUR: 'it returns false'. Refute it at one input. -/
def matchBetweenWrong : ChangeSpec := { name := "matchBetween", fn := fun _ => fun
  | [d1, d2, d3] => { results := [.lit (.bool false)], args := [d1, d2, d3] }
  | _ => none }
def MatchBetweenWrongFalsely : Prop := matchBetweenRow.holds Try.pinned (OpenSpec.ofChange matchBetweenWrong)

/-- 'alluviumlaw07.MatchNot': WHATEVER THE INPUT: true; the input reads as it did. -/
def matchNotSpec : ChangeSpec := { name := "matchNot", fn := fun _ => fun
  | [d1, d2] => { results := [.lit (.bool true)], args := [d1, d2] }
  | _ => none }
def matchNotRow : OpenClaim := { program := "ytdacefmcnjoboaa", sum := "4b37da40e600cfa9bd1ea72ba466c6553f1a766a882af6e3d25e5792232d2777", func := "alluvium/alluviumlaw07.MatchNot", spec := "matchNot", unfollowed := true, recurses := true, apart := false }
def MatchNotSaid : Prop := matchNotRow.holds Try.pinned (OpenSpec.ofChange matchNotSpec)

/-- ITS FALSE NEIGHBOUR: 'it returns false'. Refute it at one input. -/
def matchNotWrong : ChangeSpec := { name := "matchNot", fn := fun _ => fun
  | [d1, d2] => { results := [.lit (.bool false)], args := [d1, d2] }
  | _ => none }
def MatchNotWrongFalsely : Prop := matchNotRow.holds Try.pinned (OpenSpec.ofChange matchNotWrong)

/-- 'alluviumlaw07.MatchMore': WHATEVER THE INPUT: true; the input reads as it did. -/
def matchMoreSpec : ChangeSpec := { name := "matchMore", fn := fun _ => fun
  | [d1, d2, d3] => { results := [.lit (.bool true)], args := [d1, d2, d3] }
  | _ => none }
def matchMoreRow : OpenClaim := { program := "ytdacefmcnjoboaa", sum := "4b37da40e600cfa9bd1ea72ba466c6553f1a766a882af6e3d25e5792232d2777", func := "alluvium/alluviumlaw07.MatchMore", spec := "matchMore", unfollowed := true, recurses := true, apart := false }
def MatchMoreSaid : Prop := matchMoreRow.holds Try.pinned (OpenSpec.ofChange matchMoreSpec)

/-- ITS FALSE NEIGHBOUR: 'it returns false'. Refute it at one input. -/
def matchMoreWrong : ChangeSpec := { name := "matchMore", fn := fun _ => fun
  | [d1, d2, d3] => { results := [.lit (.bool false)], args := [d1, d2, d3] }
  | _ => none }
def MatchMoreWrongFalsely : Prop := matchMoreRow.holds Try.pinned (OpenSpec.ofChange matchMoreWrong)

/-- 'alluviumlaw07.MatchParts': WHATEVER THE INPUT: true; the input reads as it did. -/
def matchPartsSpec : ChangeSpec := { name := "matchParts", fn := fun _ => fun
  | [d1, d2, d3] => { results := [.lit (.bool true)], args := [d1, d2, d3] }
  | _ => none }
def matchPartsRow : OpenClaim := { program := "ytdacefmcnjoboaa", sum := "4b37da40e600cfa9bd1ea72ba466c6553f1a766a882af6e3d25e5792232d2777", func := "alluvium/alluviumlaw07.MatchParts", spec := "matchParts", unfollowed := true, recurses := true, apart := false }
def MatchPartsSaid : Prop := matchPartsRow.holds Try.pinned (OpenSpec.ofChange matchPartsSpec)

/-- ITS FALSE NEIGHBOUR: 'it returns false'. Refute it at one input. -/
def matchPartsWrong : ChangeSpec := { name := "matchParts", fn := fun _ => fun
  | [d1, d2, d3] => { results := [.lit (.bool false)], args := [d1, d2, d3] }
  | _ => none }
def MatchPartsWrongFalsely : Prop := matchPartsRow.holds Try.pinned (OpenSpec.ofChange matchPartsWrong)

/-- 'alluviumlaw07.MatchKinds': WHATEVER THE INPUT: true; the input reads as it did. -/
def matchKindsSpec : ChangeSpec := { name := "matchKinds", fn := fun _ => fun
  | [d1, d2, d3, d4] => { results := [.lit (.bool true)], args := [d1, d2, d3, d4] }
  | _ => none }
def matchKindsRow : OpenClaim := { program := "ytdacefmcnjoboaa", sum := "4b37da40e600cfa9bd1ea72ba466c6553f1a766a882af6e3d25e5792232d2777", func := "alluvium/alluviumlaw07.MatchKinds", spec := "matchKinds", unfollowed := true, recurses := true, apart := false }
def MatchKindsSaid : Prop := matchKindsRow.holds Try.pinned (OpenSpec.ofChange matchKindsSpec)

/-- ITS FALSE NEIGHBOUR: 'it returns false'. Refute it at one input. -/
def matchKindsWrong : ChangeSpec := { name := "matchKinds", fn := fun _ => fun
  | [d1, d2, d3, d4] => { results := [.lit (.bool false)], args := [d1, d2, d3, d4] }
  | _ => none }
def MatchKindsWrongFalsely : Prop := matchKindsRow.holds Try.pinned (OpenSpec.ofChange matchKindsWrong)

/-- 'alluviumlaw07.MatchEach': WHATEVER THE INPUT: true; the input reads as it did. -/
def matchEachSpec : ChangeSpec := { name := "matchEach", fn := fun _ => fun
  | [d1, d2] => { results := [.lit (.bool true)], args := [d1, d2] }
  | _ => none }
def matchEachRow : OpenClaim := { program := "ytdacefmcnjoboaa", sum := "4b37da40e600cfa9bd1ea72ba466c6553f1a766a882af6e3d25e5792232d2777", func := "alluvium/alluviumlaw07.MatchEach", spec := "matchEach", unfollowed := true, recurses := true, apart := false }
def MatchEachSaid : Prop := matchEachRow.holds Try.pinned (OpenSpec.ofChange matchEachSpec)

/-- ITS FALSE NEIGHBOUR: 'it returns false'. Refute it at one input. -/
def matchEachWrong : ChangeSpec := { name := "matchEach", fn := fun _ => fun
  | [d1, d2] => { results := [.lit (.bool false)], args := [d1, d2] }
  | _ => none }
def MatchEachWrongFalsely : Prop := matchEachRow.holds Try.pinned (OpenSpec.ofChange matchEachWrong)

/- THE SECOND FORM. 'bulk': how many values and letters a reading holds, each counted each time it is reached (what is shared counts as often as it is met; a slice's spare places count too). A statement '..UptoSaid' is the law's where the arguments, and the package variables that the reading takes, are together of bulk at most 1048576: NARROWER than '..Said'. Prove '..Said' where nothing that the law and all that it calls make is longer than what came in: it says more and counts as full. Else prove '..UptoSaid'. A law counts once. -/
mutual
def uptoBulk {H : Type} : DataW H → Nat
  | .lit (.string bytes) => bytes.length + 1
  | .lit _ => 1
  | .nil => 1
  | .ptr d => uptoBulk d + 1
  | .slice elems spare => uptoBulkAll elems + uptoBulkAll spare + 1
  | .agg parts => uptoBulkAll parts + 1
  | .iface _ d => uptoBulk d + 1
  | .map entries => uptoBulkEntries entries + 1
  | .held _ => 1
def uptoBulkAll {H : Type} : List (DataW H) → Nat
  | [] => 0
  | d :: r => uptoBulk d + uptoBulkAll r
def uptoBulkEntries {H : Type} : List (Lit × DataW H) → Nat
  | [] => 0
  | x :: r => uptoBulkEntry x + uptoBulkEntries r
def uptoBulkEntry {H : Type} : Lit × DataW H → Nat
  | (.string bytes, d) => bytes.length + uptoBulk d + 1
  | (_, d) => uptoBulk d + 1
 end
def uptoSmall : (H : Type) → List (DataW H) → Bool := fun _ ds => decide (uptoBulkAll ds ≤ 1048576)
def OpenSpec.upto (s : _root_.Go.ChangeSpec) : _root_.Go.OpenSpec := { _root_.Go.OpenSpec.ofChange s with cond := some uptoSmall }

/-- 'alluviumlaw07.MatchFits', WHERE WHAT IT READS IS OF BULK AT MOST 1048576: true; the input reads as it did. -/
def matchFitsUptoRow : OpenClaim := { program := "ytdacefmcnjoboaa", sum := "4b37da40e600cfa9bd1ea72ba466c6553f1a766a882af6e3d25e5792232d2777", func := "alluvium/alluviumlaw07.MatchFits", spec := "matchFits", unfollowed := true, recurses := true, apart := false, narrowed := true }
def MatchFitsUptoSaid : Prop := matchFitsUptoRow.holds Try.pinned (OpenSpec.upto matchFitsSpec)

/-- 'alluviumlaw07.MatchBetween', WHERE WHAT IT READS IS OF BULK AT MOST 1048576: true; the input reads as it did. -/
def matchBetweenUptoRow : OpenClaim := { program := "ytdacefmcnjoboaa", sum := "4b37da40e600cfa9bd1ea72ba466c6553f1a766a882af6e3d25e5792232d2777", func := "alluvium/alluviumlaw07.MatchBetween", spec := "matchBetween", unfollowed := true, recurses := true, apart := false, narrowed := true }
def MatchBetweenUptoSaid : Prop := matchBetweenUptoRow.holds Try.pinned (OpenSpec.upto matchBetweenSpec)

/-- 'alluviumlaw07.MatchNot', WHERE WHAT IT READS IS OF BULK AT MOST 1048576: true; the input reads as it did. -/
def matchNotUptoRow : OpenClaim := { program := "ytdacefmcnjoboaa", sum := "4b37da40e600cfa9bd1ea72ba466c6553f1a766a882af6e3d25e5792232d2777", func := "alluvium/alluviumlaw07.MatchNot", spec := "matchNot", unfollowed := true, recurses := true, apart := false, narrowed := true }
def MatchNotUptoSaid : Prop := matchNotUptoRow.holds Try.pinned (OpenSpec.upto matchNotSpec)

/-- 'alluviumlaw07.MatchMore', WHERE WHAT IT READS IS OF BULK AT MOST 1048576: true; the input reads as it did. -/
def matchMoreUptoRow : OpenClaim := { program := "ytdacefmcnjoboaa", sum := "4b37da40e600cfa9bd1ea72ba466c6553f1a766a882af6e3d25e5792232d2777", func := "alluvium/alluviumlaw07.MatchMore", spec := "matchMore", unfollowed := true, recurses := true, apart := false, narrowed := true }
def MatchMoreUptoSaid : Prop := matchMoreUptoRow.holds Try.pinned (OpenSpec.upto matchMoreSpec)

/-- 'alluviumlaw07.MatchParts', WHERE WHAT IT READS IS OF BULK AT MOST 1048576: true; the input reads as it did. -/
def matchPartsUptoRow : OpenClaim := { program := "ytdacefmcnjoboaa", sum := "4b37da40e600cfa9bd1ea72ba466c6553f1a766a882af6e3d25e5792232d2777", func := "alluvium/alluviumlaw07.MatchParts", spec := "matchParts", unfollowed := true, recurses := true, apart := false, narrowed := true }
def MatchPartsUptoSaid : Prop := matchPartsUptoRow.holds Try.pinned (OpenSpec.upto matchPartsSpec)

/-- 'alluviumlaw07.MatchKinds', WHERE WHAT IT READS IS OF BULK AT MOST 1048576: true; the input reads as it did. -/
def matchKindsUptoRow : OpenClaim := { program := "ytdacefmcnjoboaa", sum := "4b37da40e600cfa9bd1ea72ba466c6553f1a766a882af6e3d25e5792232d2777", func := "alluvium/alluviumlaw07.MatchKinds", spec := "matchKinds", unfollowed := true, recurses := true, apart := false, narrowed := true }
def MatchKindsUptoSaid : Prop := matchKindsUptoRow.holds Try.pinned (OpenSpec.upto matchKindsSpec)

/-- 'alluviumlaw07.MatchEach', WHERE WHAT IT READS IS OF BULK AT MOST 1048576: true; the input reads as it did. -/
def matchEachUptoRow : OpenClaim := { program := "ytdacefmcnjoboaa", sum := "4b37da40e600cfa9bd1ea72ba466c6553f1a766a882af6e3d25e5792232d2777", func := "alluvium/alluviumlaw07.MatchEach", spec := "matchEach", unfollowed := true, recurses := true, apart := false, narrowed := true }
def MatchEachUptoSaid : Prop := matchEachUptoRow.holds Try.pinned (OpenSpec.upto matchEachSpec)

end Rows
end Go.Proofs.Ytdacefmcnjoboaa
