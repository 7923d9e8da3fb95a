/-
  alluviumref06.Same, Longest: THE WALKS.
-/
import Derived.Test.YtgnifdkoaajboaaLbPair2
import Derived.Test.YtgnifdkoaajboaaEqsLb
namespace Go.Proofs.Ytgnifdkoaajboaa.FrW
set_option linter.unusedVariables false
open Go.RowKit FrM LabM LbM LabW
theorem take_snocL {α : Type} (l : List α) (k : Nat) (h : k < l.length) : l.take (k + 1) = l.take k ++ [l[k]] := List.take_succ_eq_append_getElem h
theorem str_beq (a b : ByteArray) : (a.toList == b.toList) = decide (a = b) := by
  have h := bs_beq a.data.toList b.data.toList
  rw [bs_of, bs_of] at h
  rw [h]
  apply decide_eq_decide.2
  exact ⟨fun e => by rw [← bs_of a, ← bs_of b, e], fun e => by rw [e]⟩
set_option maxRecDepth 20000 in
set_option maxHeartbeats 2000000 in
theorem rsame_any (A : Option Addr) (n c : Nat) (l : List Lab) (A2 : Option Addr) (n2 c2 : Nat) (l2 : List Lab) (w : World) (hl : Comes w 2 encL okL A n c l) (hl2 : Comes w 2 encL okL A2 n2 c2 l2) :
    Calls Try.prog 29 #[.slice A n c, .slice A2 n2 c2] w fun e w' => e = .returned (.bool (decide (l = l2))) ∧ Below w.heap.size w w' := by
  have HL := Lib.hid hl
  have HL2 := Lib.hid hl2
  have hcap : c ≤ 9223372036854775807 := hl.cap
  have hle := hl.le
  have hcap2 : c2 ≤ 9223372036854775807 := hl2.cap
  have hle2 := hl2.le
  clear hl hl2
  by_cases hnn : n = n2
  · subst hnn
    go_enter Try.func29, Try.ntmps29
    go_wp2_with fail
    go_loopw [5] (fun v5 wr => ∃ k : Nat, k ≤ n ∧ v5 = .int .i64 k ∧ l.take k = l2.take k ∧ Below w.heap.size w wr) (fun v5 _ => n - (intOf v5).toNat)
    case atStart => exact ⟨0, Nat.zero_le _, rfl, rfl, Below.refl _ _⟩
    case round =>
      obtain ⟨k, hk, rfl, ht, ho⟩ := hrel
      have hln := HL.out.len
      have hln2 := HL2.out.len
      by_cases hlt : k < n
      · have hkl : k < l.length := by omega
        have hkl2 : k < l2.length := by omega
        obtain ⟨b, o, rfl, hcs⟩ := lab_cells HL.out.lies hkl
        obtain ⟨b2, o2, rfl, hcs2⟩ := lab_cells HL2.out.lies hkl2
        obtain ⟨hc0, hc1⟩ := hcs _ ho
        obtain ⟨hd0, hd1⟩ := hcs2 _ ho
        have hs1 := take_snocL l k hkl
        have hs2 := take_snocL l2 k hkl2
        generalize l[k] = x at *
        generalize l2[k] = y at *
        obtain ⟨x1, x2⟩ := x
        obtain ⟨y1, y2⟩ := y
        simp only [] at hc0 hc1 hd0 hd1
        have HO := Lib.hid ho
        have HT := Lib.hid ht
        rw [← ht] at hs2
        have HS := Lib.hid (And.intro hs1 hs2)
        clear hs1 hs2
        have i0 : (0 : Int) ≤ (k : Int) := by omega
        have i1 : (k : Int) < (n : Int) := by omega
        clear ho hln hcs hcs2 hln2
        have hneq := fun w => equal_L x1 y1 x2 y2 w
        have hgd := guard_L
        by_cases hxy : (x1, x2) = (y1, y2)
        · have hsm : sameL x1 y1 x2 y2 = true := by
            injection hxy with e1 e2; subst e1 e2; unfold sameL; simp
          rw [hsm] at hneq
          have HX := Lib.hid hxy
          clear hxy hsm ht
          go_wp2_with fail
          go_quiet (fail)
          go_wp2_with fail
          go_roundw
          case rel => exact ⟨k + 1, by omega, by go_num, by rw [HS.out.1, HS.out.2, HT.out, HX.out], HO.out.trans ⟨rfl, rfl, rfl, Nat.le_refl _, fun _ _ => rfl⟩⟩
          case measure => simp [intOf]; omega
        · have hsm : sameL x1 y1 x2 y2 = false := by
            unfold sameL
            rw [str_beq, str_beq]
            rw [Bool.and_eq_false_iff]
            by_cases h1 : x1 = y1
            · right; apply decide_eq_false; intro h2; exact hxy (by rw [h1, h2])
            · left; exact decide_eq_false h1
          rw [hsm] at hneq
          have hno : l ≠ l2 := by
            intro e
            have h1 := HS.out.1; have h2 := HS.out.2
            rw [e] at h1
            rw [h1, ht] at h2
            have := List.append_cancel_left h2
            simp at this
            exact hxy (by rw [this.1, this.2])
          have HX := Lib.hid hno
          clear hxy hsm hno ht
          go_wp2_with fail
          go_quiet (fail)
          go_wp2_with fail
          go_ret
          exact ⟨by rw [decide_eq_false HX.out]; rfl, HO.out.trans ⟨rfl, rfl, rfl, Nat.le_refl _, fun _ _ => rfl⟩⟩
      · obtain rfl : k = n := by omega
        rw [List.take_of_length_le (by omega), List.take_of_length_le (by omega)] at ht
        have HO := Lib.hid (And.intro ho ht)
        clear ho ht hln hln2
        go_wp2_with fail
        go_ret
        exact ⟨by rw [decide_eq_true HO.out.2]; rfl, HO.out.1⟩
  · have hno : l ≠ l2 := fun e => hnn (by rw [← HL.out.len, ← HL2.out.len, e])
    have HX := Lib.hid hno
    have hn3 : ((n : Int) == (n2 : Int)) = false := by simp; omega
    clear hno
    go_enter Try.func29, Try.ntmps29
    go_wp2_with fail
    go_ret
    exact ⟨by rw [decide_eq_false HX.out]; rfl, Below.refl _ _⟩
set_option maxRecDepth 20000 in
set_option maxHeartbeats 2000000 in
theorem rlongest_any (A : Option Addr) (n c : Nat) (l : List Lab) (w : World) (hl : Comes w 2 encL okL A n c l) :
    Calls Try.prog 18 #[.slice A n c] w fun e w' => e = .returned (.int .i64 (longL l : Int)) ∧ Below w.heap.size w w' := by
  have HL := Lib.hid hl
  have hcap : c ≤ 9223372036854775807 := hl.cap
  have hle := hl.le
  obtain ⟨S, hS⟩ : ∃ S, longL l = S := ⟨_, rfl⟩
  rw [hS]
  have HK := Lib.hid hS
  clear hl hS
  go_enter Try.func18, Try.ntmps18
  go_wp2_with fail
  go_loopw [3, 4] (fun v3 v4 wr => ∃ (k m : Nat), k ≤ n ∧ v4 = .int .i64 k ∧ v3 = .int .i64 m ∧ S = max m (longL (l.drop k)) ∧ Below w.heap.size w wr) (fun _ v4 _ => n - (intOf v4).toNat)
  case atStart => exact ⟨0, 0, Nat.zero_le _, rfl, rfl, by rw [Nat.zero_max]; exact HK.out.symm, Below.refl _ _⟩
  case round =>
    obtain ⟨k, m, hk, rfl, rfl, hacc, ho⟩ := hrel
    have hln := HL.out.len
    by_cases hlt : k < n
    · have hkl : k < l.length := by omega
      obtain ⟨b, o, rfl, hcs⟩ := lab_cells HL.out.lies hkl
      obtain ⟨hc0, hc1⟩ := hcs _ ho
      rw [longL_at l k hkl] at hacc
      generalize l[k] = x at *
      obtain ⟨x1, x2⟩ := x
      simp only [] at hc0 hc1 hacc
      have HO := Lib.hid (And.intro ho hacc)
      have i0 : (0 : Int) ≤ (k : Int) := by omega
      have i1 : (k : Int) < (n : Int) := by omega
      clear ho hln hcs hacc
      rcases Nat.lt_or_ge m x1.size with h1 | h1 <;> rcases Nat.lt_or_ge m x2.size with h2 | h2 <;> rcases Nat.lt_or_ge x1.size x2.size with h3 | h3
      all_goals first | (exfalso; omega) | (
        go_wp2_with fail
        go_region
        go_wp2_with fail
        go_roundw
        case rel => exact ⟨k + 1, max m (max x1.size x2.size), by omega, by go_num, by congr 1; omega, by rw [HO.out.2]; omega, HO.out.1.trans ⟨rfl, rfl, rfl, Nat.le_refl _, fun _ _ => rfl⟩⟩
        case measure => simp [intOf]; omega)
    · obtain rfl : k = n := by omega
      rw [List.drop_of_length_le (by omega)] at hacc
      have hS : S = m := by rw [hacc]; exact Nat.max_zero m
      subst hS
      have HO := Lib.hid ho
      clear ho hacc
      go_wp2_with fail
      go_ret
      exact ⟨rfl, HO.out⟩
end Go.Proofs.Ytgnifdkoaajboaa.FrW
