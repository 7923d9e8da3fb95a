/-
  math/bits' CONTRACTS OFF THE SHELF, AND bits.Lead, bits.Trail.
-/
import Derived.Test.YtdidengokijcjaaDoorJ14
import Derived.Shelf.Small.Bits
import Derived.Shelf.Strconv.Itoa0
import Derived.Shelf.Spec.TrailingZeros
import Derived.Ground.Names2Prog
import Derived.Ground.Names7Prog
import Derived.Test.YtdidengokijcjaaDoorRows
import Derived.Test.YtdidengokijcjaaDoorJ06
/-
  math/bits' CONTRACTS OFF THE SHELF, AND bits.Lead, bits.Trail.
-/
namespace Go.Proofs.YtdidengokijcjaaDoor
open Go.Shelf Go.Proofs
/-- math/bits' table lies in the world as the program's text lays it. -/
def Tab (w : World) : Prop := TabAt (Tryd.lays29_ren.g 1) Lib.deBruijn64tab w
theorem lz64 (x : Nat) (w : World) (h1 : x < 18446744073709551616) : Calls Tryd.prog 99 #[.int .u64 x] w fun e w' => e = .returned (.int .i64 (64 - (Lib.bitLen x : Int))) ∧ w' = w :=
  Any.bits_LeadingZeros64 Tryd.lays134 x w (by omega) (by omega)
theorem tz64 (x : Nat) (w : World) (h1 : x < 18446744073709551616) (hT : Tab w) : Calls Tryd.prog 100 #[.int .u64 x] w fun e w' => e = .returned (.int .i64 (Lib.ctz 64 x)) ∧ w' = w :=
  Any7.bits_TrailingZeros64 Tryd.lays29 x h1 w fun _ => hT
theorem lead_any (x : Nat) (w : World) (h1 : x < 18446744073709551616) : Calls Tryd.prog 96 #[.int .u64 x] w fun e w' => e = .returned (.int .i64 (64 - (Lib.bitLen x : Int))) ∧ w = w' := by
  have c := lz64 x w h1
  clear h1
  go_enter Tryd.func96, Tryd.ntmps96
  go_wp2_with (go_at_call 99; refine c.mono ?_; rintro e w' ⟨rfl, rfl⟩)
  go_ret
  exact ⟨rfl, rfl⟩
theorem trail_any (x : Nat) (w : World) (h1 : x < 18446744073709551616) (hT : Tab w) : Calls Tryd.prog 97 #[.int .u64 x] w fun e w' => e = .returned (.int .i64 (Lib.ctz 64 x)) ∧ w = w' := by
  have c := tz64 x w h1 hT
  clear h1 hT
  go_enter Tryd.func97, Tryd.ntmps97
  go_wp2_with (go_at_call 100; refine c.mono ?_; rintro e w' ⟨rfl, rfl⟩)
  go_ret
  exact ⟨rfl, rfl⟩
#print axioms trail_any
end Go.Proofs.YtdidengokijcjaaDoor
