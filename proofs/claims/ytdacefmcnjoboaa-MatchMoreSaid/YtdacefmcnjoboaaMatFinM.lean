import Derived.Test.YtdacefmcnjoboaaMatLawM
import Derived.Test.YtdacefmcnjoboaaMatOpen
namespace Go.Proofs.Ytdacefmcnjoboaa.LabW
open Go.RowKit Go.Shelf LabM
theorem matchMore_fin (A1 : Option Addr) (n1 c1 : Nat) (l1 : List Mat) (A2 : Option Addr) (n2 c2 : Nat) (l2 : List Mat) (A3 : Option Addr) (n3 c3 : Nat) (l3 : List Lab) (w : World) (h1 : Comes w 3 encM okM A1 n1 c1 l1) (h2 : Comes w 3 encM okM A2 n2 c2 l2) (h3 : Comes w 2 encL okL A3 n3 c3 l3) :
    Calls Try.prog 6 #[.slice A1 n1 c1, .slice A2 n2 c2, .slice A3 n3 c3] w fun e w' => e = .returned (.bool true) ∧ Below w.heap.size w w' := matchMore_all A1 n1 c1 l1 A2 n2 c2 l2 A3 n3 c3 l3 w h1 h2 h3
end Go.Proofs.Ytdacefmcnjoboaa.LabW
