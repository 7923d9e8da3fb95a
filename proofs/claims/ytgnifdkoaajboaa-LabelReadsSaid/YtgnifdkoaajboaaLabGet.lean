/-
  label.Get, alluviumref06.Get: THE WALKS.
-/
import Derived.Test.YtgnifdkoaajboaaRows
import Derived.Shelf.Abstract
import Derived.Test.YtgnifdkoaajboaaMem
import Derived.Test.YtgnifdkoaajboaaLabMath
import Derived.StillTailTactics
import Derived.Deep.QuietTactic
import Derived.BigQuiet
import Derived.Outline
namespace Go.Proofs.Ytgnifdkoaajboaa.LabW
open Go.RowKit Go.Shelf LabM
def encL (x : Lab) : List Value := [.string x.1, .string x.2]
def okL (x : Lab) : Prop := x.1.size ≤ maxLen ∧ x.2.size ≤ maxLen
theorem lab_cells {w : World} {A : Option Addr} {l : List Lab} (h : Lies w w.heap.size 2 encL A l) {k : Nat} (hk : k < l.length) :
    ∃ b o, A = some ⟨b, o, none⟩ ∧ ∀ W, Below w.heap.size w W → W.cell? ⟨b, o + k * 2, none⟩ = some (.string l[k].1) ∧ W.cell? ⟨b, o + k * 2 + 1, none⟩ = some (.string l[k].2) := by
  obtain ⟨b, o, hA, _, hc⟩ := h.all hk
  exact ⟨b, o, hA, fun W hW => ⟨hc W hW 0 _ rfl, hc W hW 1 _ rfl⟩⟩
set_option maxHeartbeats 1000000 in
theorem get_any (A : Option Addr) (n c : Nat) (l : List Lab) (nm : ByteArray) (w : World) (hl : Comes w 2 encL okL A n c l) :
    Calls Try.prog 23 #[.slice A n c, .string nm] w fun e w' => e = .returned (.string (getL l nm)) ∧ Below w.heap.size w w' := by
  have HL := Lib.hid hl
  have hcap : c ≤ 9223372036854775807 := hl.cap
  have hle := hl.le
  clear hl
  go_enter Try.func23, Try.ntmps23
  go_wp2_with fail
  go_loopw [9] (fun v9 wr => ∃ k : Nat, k ≤ n ∧ v9 = .int .i64 k ∧ getL l nm = getL (l.drop k) nm ∧ Below w.heap.size w wr) (fun v9 _ => n - (intOf v9).toNat)
  case atStart => exact ⟨0, Nat.zero_le _, rfl, rfl, Below.refl _ _⟩
  case round =>
    obtain ⟨k, hk, rfl, hg, ho⟩ := hrel
    have hln := HL.out.len
    by_cases hlt : k < n
    · have hkl : k < l.length := by omega
      obtain ⟨b, o, rfl, hcs⟩ := lab_cells HL.out.lies hkl
      obtain ⟨hc0, hc1⟩ := hcs _ ho
      rw [getL_at l nm k hkl] at hg
      generalize l[k] = x at *
      obtain ⟨x1, x2⟩ := x
      simp only [] at hc0 hc1 hg
      have HO := Lib.hid ho
      have HG := Lib.hid hg
      clear ho hln hcs hg
      go_wp2_with fail
      · have ht : (x1.toList == nm.toList) = true := by assumption
        go_ret
        have hg := HG.out
        rw [if_pos ht] at hg
        exact ⟨by rw [hg]; rfl, HO.out.alloc HO.out.size _⟩
      · have ht : (x1.toList == nm.toList) = false := by assumption
        have hg := HG.out
        rw [if_neg (by rw [ht]; decide)] at hg
        go_roundw
        case rel => exact ⟨k + 1, by omega, by go_num, hg, HO.out.alloc HO.out.size _⟩
        case measure => simp [intOf]; omega
    · obtain rfl : k = n := by omega
      rw [getL_end l nm k (by omega)] at hg
      have HO := Lib.hid ho
      have HG := Lib.hid hg
      clear ho hg
      go_wp2_with fail
      go_ret
      exact ⟨by rw [HG.out]; rfl, HO.out⟩
set_option maxHeartbeats 1000000 in
theorem rget_any (A : Option Addr) (n c : Nat) (l : List Lab) (nm : ByteArray) (w : World) (hl : Comes w 2 encL okL A n c l) :
    Calls Try.prog 24 #[.slice A n c, .string nm] w fun e w' => e = .returned (.string (getL l nm)) ∧ Below w.heap.size w w' := by
  have HL := Lib.hid hl
  have hcap : c ≤ 9223372036854775807 := hl.cap
  have hle := hl.le
  clear hl
  go_enter Try.func24, Try.ntmps24
  go_wp2_with fail
  go_loopw [5] (fun v9 wr => ∃ k : Nat, k ≤ n ∧ v9 = .int .i64 k ∧ getL l nm = getL (l.drop k) nm ∧ Below w.heap.size w wr) (fun v9 _ => n - (intOf v9).toNat)
  case atStart => exact ⟨0, Nat.zero_le _, rfl, rfl, Below.refl _ _⟩
  case round =>
    obtain ⟨k, hk, rfl, hg, ho⟩ := hrel
    have hln := HL.out.len
    by_cases hlt : k < n
    · have hkl : k < l.length := by omega
      obtain ⟨b, o, rfl, hcs⟩ := lab_cells HL.out.lies hkl
      obtain ⟨hc0, hc1⟩ := hcs _ ho
      rw [getL_at l nm k hkl] at hg
      generalize l[k] = x at *
      obtain ⟨x1, x2⟩ := x
      simp only [] at hc0 hc1 hg
      have HO := Lib.hid ho
      have HG := Lib.hid hg
      clear ho hln hcs hg
      have i0 : (0 : Int) ≤ (k : Int) := by omega
      have i1 : (k : Int) < (n : Int) := by omega
      go_wp2_with fail
      · have ht : (x1.toList == nm.toList) = true := by assumption
        go_ret
        have hg := HG.out
        rw [if_pos ht] at hg
        exact ⟨by rw [hg]; rfl, HO.out⟩
      · have ht : (x1.toList == nm.toList) = false := by assumption
        have hg := HG.out
        rw [if_neg (by rw [ht]; decide)] at hg
        go_roundw
        case rel => exact ⟨k + 1, by omega, by go_num, hg, HO.out⟩
        case measure => simp [intOf]; omega
    · obtain rfl : k = n := by omega
      rw [getL_end l nm k (by omega)] at hg
      have HO := Lib.hid ho
      have HG := Lib.hid hg
      clear ho hg
      go_wp2_with fail
      go_ret
      exact ⟨by rw [HG.out]; rfl, HO.out⟩
end Go.Proofs.Ytgnifdkoaajboaa.LabW
