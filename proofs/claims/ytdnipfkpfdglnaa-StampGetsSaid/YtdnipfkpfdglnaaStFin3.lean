/-
  THE WALK OF StampGets AT WHATEVER ARGUMENTS.
-/
import Derived.Test.YtdnipfkpfdglnaaStFin2
import Derived.Test.YtdnipfkpfdglnaaStLawH
namespace Go.Proofs.Ytdnipfkpfdglnaa
open Go.RowKit Go.Shelf BitsM BitsW StM StW
namespace StW
theorem stampGets_fin (B : ByteArray) (n : Int) (s : St) (w : World) (hB : B.size ≤ maxLen) (hn : (Lit.int .u8 n).wf = true) (hs : okSt s) :
    Calls Try.prog 4 #[.string B, .int .u8 n, .agg #[.int .i64 s.1, .int .i64 s.2.1, .int .i64 s.2.2]] w fun e w' => e = .returned (.bool true) ∧ Below w.heap.size w w' := by
  obtain ⟨x, h1, rfl⟩ := byte_of hn
  exact stampGets_all B x s w hB h1 hs
end StW
end Go.Proofs.Ytdnipfkpfdglnaa
