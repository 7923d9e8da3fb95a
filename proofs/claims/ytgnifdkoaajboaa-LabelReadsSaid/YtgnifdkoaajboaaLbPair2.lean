/-
  alluviumref06.Longest, Same, Limit; label.Limit; Few: THE WALKS.
-/
import Derived.Test.YtgnifdkoaajboaaLbPair
import Derived.BigRegion
namespace Go.Proofs.Ytgnifdkoaajboaa.FrW
set_option linter.unusedVariables false
open Go.RowKit FrM LabM LbM LabW
/-- The limit of a generation. -/
def limI (g : Int) : Int := if g = 1 then 12 else if g = 2 then 24 else if g = 3 then 48 else 0
theorem limit_any (g : Int) (w : World) :
    Calls Try.prog 15 #[.int .i64 g] w fun e w' => e = .returned (.int .i64 (limI g)) ∧ w' = w := by
  by_cases h1 : g = 1
  · subst h1
    go_enter Try.func15, Try.ntmps15
    go_wp2
    go_ret
    exact ⟨rfl, rfl⟩
  by_cases h2 : g = 2
  · subst h2
    go_enter Try.func15, Try.ntmps15
    go_wp2
    go_ret
    exact ⟨rfl, rfl⟩
  by_cases h3 : g = 3
  · subst h3
    go_enter Try.func15, Try.ntmps15
    go_wp2
    go_ret
    exact ⟨rfl, rfl⟩
  have hR : limI g = 0 := by unfold limI; rw [if_neg h1, if_neg h2, if_neg h3]
  rw [hR]
  by_cases h4 : g < 1
  · have h5 : decide (g < 1) = true := by simp; omega
    clear h1 h2 h3 hR
    go_enter Try.func15, Try.ntmps15
    go_wp2
    go_ret
    exact ⟨rfl, rfl⟩
  · have h5 : g > 3 := by omega
    clear h1 h2 h3 hR
    go_enter Try.func15, Try.ntmps15
    go_wp2
    go_ret
    exact ⟨rfl, rfl⟩
theorem rlimit_any (g : Int) (w : World) :
    Calls Try.prog 16 #[.int .i64 g] w fun e w' => e = .returned (.int .i64 (limI g)) ∧ w' = w := by
  by_cases h1 : g = 1
  · subst h1
    go_enter Try.func16, Try.ntmps16
    go_wp2
    go_ret
    exact ⟨rfl, rfl⟩
  by_cases h2 : g = 2
  · subst h2
    go_enter Try.func16, Try.ntmps16
    go_wp2
    go_ret
    exact ⟨rfl, rfl⟩
  by_cases h3 : g = 3
  · subst h3
    go_enter Try.func16, Try.ntmps16
    go_wp2
    go_ret
    exact ⟨rfl, rfl⟩
  have hR : limI g = 0 := by unfold limI; rw [if_neg h1, if_neg h2, if_neg h3]
  rw [hR]
  have e1 : (g == 1) = false := by simp; omega
  have e2 : (g == 2) = false := by simp; omega
  have e3 : (g == 3) = false := by simp; omega
  clear h1 h2 h3 hR
  go_enter Try.func16, Try.ntmps16
  go_wp2
  go_ret
  exact ⟨rfl, rfl⟩
end Go.Proofs.Ytgnifdkoaajboaa.FrW
