import Derived.Test.YtdacefmcnjoboaaMatLawP
import Derived.Test.YtdacefmcnjoboaaMatOpen
namespace Go.Proofs.Ytdacefmcnjoboaa.LabW
open Go.RowKit Go.Shelf LabM
theorem matchParts_fin (A : Option Addr) (n c : Nat) (l : List Sam) (f t : Int) (w : World) (hl : Comes w 2 encS okS A n c l) (_ : (Lit.int .i64 f).wf = true) (_ : (Lit.int .i64 t).wf = true) :
    Calls Try.prog 7 #[.slice A n c, .int .i64 f, .int .i64 t] w fun e w' => e = .returned (.bool true) ∧ Below w.heap.size w w' := matchParts_all A n c l f t w hl
theorem matchBetween_fin (A : Option Addr) (n c : Nat) (l : List Sam) (f t : Int) (w : World) (hl : Comes w 2 encS okS A n c l) (_ : (Lit.int .i64 f).wf = true) (_ : (Lit.int .i64 t).wf = true) :
    Calls Try.prog 4 #[.slice A n c, .int .i64 f, .int .i64 t] w fun e w' => e = .returned (.bool true) ∧ Below w.heap.size w w' := matchBetween_all A n c l f t w hl
end Go.Proofs.Ytdacefmcnjoboaa.LabW
