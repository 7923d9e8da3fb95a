/-
  alluviumlaw06.Few: THE WALK.
-/
import Derived.Test.YtgnifdkoaajboaaLbPair2
namespace Go.Proofs.Ytgnifdkoaajboaa.FrW
set_option linter.unusedVariables false
open Go.RowKit FrM LabM LbM LabW
def shortB (l : List Lab) : Bool := l.all fun x => decide (x.1.size ≤ 300) && decide (x.2.size ≤ 300)
theorem shortB_iff (l : List Lab) : shortB l = true ↔ shortL l := by
  unfold shortB shortL
  rw [List.all_eq_true]
  constructor
  · intro h x hx
    have := h x hx
    simpa using this
  · intro h x hx
    have := h x hx
    simpa using this
/-- Are there so few labels, and so short? -/
def fewB (l : List Lab) : Bool := decide (l.length ≤ 10) && shortB l
theorem fewB_iff (l : List Lab) : fewB l = true ↔ l.length ≤ 10 ∧ shortL l := by unfold fewB; rw [Bool.and_eq_true, decide_eq_true_eq, shortB_iff]
theorem few_no {l : List Lab} {k : Nat} (h : k < l.length) (h2 : 300 < l[k].1.size ∨ 300 < l[k].2.size) : fewB l = false := by
  cases hf : fewB l with
  | false => rfl
  | true =>
    have := ((fewB_iff l).1 hf).2 _ (List.getElem_mem h)
    omega
theorem few_short {l : List Lab} (h : ∀ k, (h : k < l.length) → k < 11 → l[k].1.size ≤ 300 ∧ l[k].2.size ≤ 300) : fewB l = decide (l.length ≤ 10) := by
  unfold fewB
  by_cases hl : l.length ≤ 10
  · rw [(shortB_iff l).2 (fun x hx => by obtain ⟨k, hk, rfl⟩ := List.getElem_of_mem hx; exact h k hk (by omega)), Bool.and_true]
  · rw [decide_eq_false hl]; rfl
set_option maxRecDepth 20000 in
set_option maxHeartbeats 1000000 in
theorem few_any (A : Option Addr) (n c : Nat) (l : List Lab) (w : World) (hl : Comes w 2 encL okL A n c l) :
    Calls Try.prog 12 #[.slice A n c] w fun e w' => e = .returned (.bool (fewB l)) ∧ Below w.heap.size w w' := by
  have HL := Lib.hid hl
  have hcap : c ≤ 9223372036854775807 := hl.cap
  have hle := hl.le
  have hln := Lib.hid hl.len
  obtain ⟨R, hR⟩ : ∃ R, fewB l = R := ⟨_, rfl⟩
  rw [hR]
  have HR := Lib.hid hR
  clear hl hR
  go_enter Try.func12, Try.ntmps12
  go_wp2_with fail
  go_loopw [3] (fun v3 wr => ∃ (k : Nat), k ≤ n ∧ k ≤ 11 ∧ v3 = .int .i64 k ∧ (∀ j, (h : j < l.length) → j < k → l[j].1.size ≤ 300 ∧ l[j].2.size ≤ 300) ∧ Below w.heap.size w wr) (fun v3 _ => n - (intOf v3).toNat)
  case atStart => exact ⟨0, Nat.zero_le _, Nat.zero_le _, rfl, fun j h h2 => by omega, Below.refl _ _⟩
  case round =>
    obtain ⟨k, hk, hk11, rfl, hsh, ho⟩ := hrel
    by_cases hgo : k < n ∧ k ≤ 10
    · obtain ⟨hlt, h10⟩ := hgo
      have hkl : k < l.length := by have := hln.out; omega
      obtain ⟨b, o, rfl, hcs⟩ := lab_cells HL.out.lies hkl
      obtain ⟨hc0, hc1⟩ := hcs _ ho
      have HNO := Lib.hid (few_no hkl)
      have HSH : Hid (l[k].1.size ≤ 300 → l[k].2.size ≤ 300 → ∀ j, (h : j < l.length) → j < k + 1 → l[j].1.size ≤ 300 ∧ l[j].2.size ≤ 300) := Lib.hid (fun h1 h2 j h h3 => by
        by_cases hj : j = k
        · subst hj; exact ⟨h1, h2⟩
        · exact hsh j h (by omega))
      generalize hx : l[k] = x at *
      obtain ⟨x1, x2⟩ := x
      simp only [] at hc0 hc1 HNO HSH
      have HO := Lib.hid ho
      have k0 : (0 : Int) ≤ (k : Int) := by omega
      have k1 : (k : Int) < (n : Int) := by omega
      have k2 : (k : Int) ≤ 10 := by omega
      obtain ⟨z1, hz1⟩ : ∃ z, x1.size = z := ⟨_, rfl⟩
      obtain ⟨z2, hz2⟩ : ∃ z, x2.size = z := ⟨_, rfl⟩
      rw [hz1, hz2] at HNO HSH
      clear ho hcs hsh hx
      by_cases h1 : 300 < z1
      · have hRf : R = false := by rw [← HR.out]; exact HNO.out (.inl h1)
        subst hRf
        have m1 : (z1 : Int) > 300 := by omega
        go_wp2_with fail
        go_ret
        exact ⟨rfl, HO.out⟩
      · have m1 : ¬ (z1 : Int) > 300 := by omega
        by_cases h2 : 300 < z2
        · have hRf : R = false := by rw [← HR.out]; exact HNO.out (.inr h2)
          subst hRf
          have m2 : (z2 : Int) > 300 := by omega
          go_wp2_with fail
          go_ret
          exact ⟨rfl, HO.out⟩
        · have m2 : ¬ (z2 : Int) > 300 := by omega
          have HS2 := Lib.hid (HSH.out (by omega) (by omega))
          go_wp2_with fail
          go_roundw
          case rel => exact ⟨k + 1, by omega, by omega, by go_num, HS2.out, HO.out⟩
          case measure => simp [intOf]; omega
    · have hR2 : R = decide (n ≤ 10) := by
        have h2 := few_short (l := l) (fun j h hj => hsh j h (by have := hln.out; omega))
        rw [← HR.out, h2, hln.out]
      have HO := Lib.hid (And.intro ho hR2)
      clear ho hsh hR2
      by_cases hn : n ≤ 10
      · have hkn : k = n := by omega
        subst hkn
        have m1 : (k : Int) ≤ 10 := by omega
        clear hgo
        go_wp2_with fail
        go_ret
        exact ⟨by rw [HO.out.2, decide_eq_true hn]; rfl, HO.out.1⟩
      · have m1 : ¬ (n : Int) ≤ 10 := by omega
        have hk2 : k = 11 := by omega
        subst hk2
        clear hgo
        rcases (show n = 11 ∨ 11 < n by omega) with h11 | h11
        · subst h11
          go_wp2_with fail
          go_ret
          exact ⟨by rw [HO.out.2, decide_eq_false hn]; rfl, HO.out.1⟩
        · have m3 : (11 : Int) < (n : Int) := by omega
          go_wp2_with fail
          go_ret
          exact ⟨by rw [HO.out.2, decide_eq_false hn]; rfl, HO.out.1⟩
end Go.Proofs.Ytgnifdkoaajboaa.FrW
