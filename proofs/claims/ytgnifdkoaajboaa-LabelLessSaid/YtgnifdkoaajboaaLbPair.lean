/-
  label.Less, Same, Longest, Limit; alluviumref06.Same, Longest, Limit; Few: THE WALKS.
-/
import Derived.Test.YtgnifdkoaajboaaLbRight
namespace Go.Proofs.Ytgnifdkoaajboaa.FrW
set_option linter.unusedVariables false
open Go.RowKit FrM LabM LbM LabW
theorem bs_lss (a b : List UInt8) : Op.bytesLess (bs a).toList (bs b).toList = ltB a b := by
  rw [bytesLess_ltB, ByteArray.toList_eq, ByteArray.toList_eq]; rfl
theorem bs_beq (a b : List UInt8) : ((bs a).toList == (bs b).toList) = decide (a = b) := by
  rw [ByteArray.toList_eq, ByteArray.toList_eq, bs_list, bs_list]
  by_cases h : a = b
  · subst h; simp
  · rw [decide_eq_false h]; simp [h]
set_option maxHeartbeats 400000 in
theorem less_any (A1 : Option Addr) (n1 c1 : Nat) (a : List Lab) (A2 : Option Addr) (n2 c2 : Nat) (b : List Lab) (w : World) (ha : Comes w 2 encL okL A1 n1 c1 a) (hb : Comes w 2 encL okL A2 n2 c2 b) (h1 : n1 ≤ 10) (h2 : n2 ≤ 10) (s1 : shortL a) (s2 : shortL b) :
    Calls Try.prog 31 #[.slice A1 n1 c1, .slice A2 n2 c2] w fun e w' => e = .returned (.bool (ltB (keyL a) (keyL b))) ∧ Below w.heap.size w w' := by
  have HK1 := Lib.hid (key_any A1 n1 c1 a w ha h1 s1)
  have HK2 := Lib.hid (fun W (h : Below w.heap.size w W) => key_any A2 n2 c2 b W (hb.later h) h2 s2)
  have HL := Lib.hid (bs_lss (keyL a) (keyL b))
  obtain ⟨X, hX⟩ : ∃ X, bs (keyL a) = X := ⟨_, rfl⟩
  obtain ⟨Y, hY⟩ : ∃ Y, bs (keyL b) = Y := ⟨_, rfl⟩
  obtain ⟨R, hR⟩ : ∃ R, ltB (keyL a) (keyL b) = R := ⟨_, rfl⟩
  rw [hX] at HK1 HL
  rw [hY] at HK2 HL
  rw [hR] at HL ⊢
  have hL := HL.out
  clear hX hY hR ha hb s1 s2 HL
  go_enter Try.func31, Try.ntmps31
  go_wp2_with fail
  refine HK1.out.mono ?_
  rintro e w1 ⟨rfl, hb1⟩
  go_wp2_with fail
  refine (HK2.out w1 hb1).mono ?_
  rintro e w2 ⟨rfl, hb2⟩
  go_wp2_with fail
  go_ret
  exact ⟨rfl, later hb1 hb2⟩
set_option maxHeartbeats 400000 in
theorem same_any (A1 : Option Addr) (n1 c1 : Nat) (a : List Lab) (A2 : Option Addr) (n2 c2 : Nat) (b : List Lab) (w : World) (ha : Comes w 2 encL okL A1 n1 c1 a) (hb : Comes w 2 encL okL A2 n2 c2 b) (h1 : n1 ≤ 10) (h2 : n2 ≤ 10) (s1 : shortL a) (s2 : shortL b) :
    Calls Try.prog 32 #[.slice A1 n1 c1, .slice A2 n2 c2] w fun e w' => e = .returned (.bool (decide (a = b))) ∧ Below w.heap.size w w' := by
  have HK1 := Lib.hid (key_any A1 n1 c1 a w ha h1 s1)
  have HK2 := Lib.hid (fun W (h : Below w.heap.size w W) => key_any A2 n2 c2 b W (hb.later h) h2 s2)
  have HL := Lib.hid (bs_beq (keyL a) (keyL b))
  have hla := ha.len
  have hlb := hb.len
  have f1 : fits64 a := fun x hx => by have := s1 x hx; simp; omega
  have f2 : fits64 b := fun x hx => by have := s2 x hx; simp; omega
  by_cases hn : n1 = n2
  · have hR : decide (a = b) = decide (keyL a = keyL b) := by
      apply decide_eq_decide.2
      exact ⟨fun e => by rw [e], fun e => key_inj a b f1 f2 (by omega) e⟩
    rw [hR]
    obtain ⟨X, hX⟩ : ∃ X, bs (keyL a) = X := ⟨_, rfl⟩
    obtain ⟨Y, hY⟩ : ∃ Y, bs (keyL b) = Y := ⟨_, rfl⟩
    obtain ⟨R, hR⟩ : ∃ R, decide (keyL a = keyL b) = R := ⟨_, rfl⟩
    rw [hX] at HK1 HL
    rw [hY] at HK2 HL
    rw [hR] at HL ⊢
    have hL := HL.out
    have hnb : ((n1 : Int) == (n2 : Int)) = true := by simp; omega
    clear hX hY hR ha hb s1 s2 HL hla hlb f1 f2 hn
    go_enter Try.func32, Try.ntmps32
    go_wp2_with fail
    refine HK1.out.mono ?_
    rintro e w1 ⟨rfl, hb1⟩
    go_wp2_with fail
    refine (HK2.out w1 hb1).mono ?_
    rintro e w2 ⟨rfl, hb2⟩
    go_wp2_with fail
    go_ret
    exact ⟨rfl, later hb1 hb2⟩
  · have hR : decide (a = b) = false := decide_eq_false (fun e => hn (by rw [← hla, ← hlb, e]))
    rw [hR]
    have hnb : ((n1 : Int) == (n2 : Int)) = false := by simp; omega
    clear hR ha hb s1 s2 HL hla hlb f1 f2 HK1 HK2
    go_enter Try.func32, Try.ntmps32
    go_wp2_with fail
    go_ret
    exact ⟨rfl, Below.refl _ _⟩
/-- The longest name, or value. -/
def longL : List Lab → Nat
  | [] => 0
  | x :: l => max (max x.1.size x.2.size) (longL l)
theorem longL_at (l : List Lab) (k : Nat) (h : k < l.length) : longL (l.drop k) = max (max l[k].1.size l[k].2.size) (longL (l.drop (k + 1))) := by
  rw [List.drop_eq_getElem_cons h, longL]
set_option maxHeartbeats 1000000 in
theorem longest_any (A : Option Addr) (n c : Nat) (l : List Lab) (w : World) (hl : Comes w 2 encL okL A n c l) :
    Calls Try.prog 17 #[.slice A n c] w fun e w' => e = .returned (.int .i64 (longL l : Int)) ∧ Below w.heap.size w w' := by
  have HL := Lib.hid hl
  have hcap : c ≤ 9223372036854775807 := hl.cap
  have hle := hl.le
  obtain ⟨S, hS⟩ : ∃ S, longL l = S := ⟨_, rfl⟩
  rw [hS]
  have HK := Lib.hid hS
  clear hl hS
  go_enter Try.func17, Try.ntmps17
  go_wp2_with fail
  go_loopw [3, 8] (fun v3 v8 wr => ∃ (k m : Nat), k ≤ n ∧ v8 = .int .i64 k ∧ v3 = .int .i64 m ∧ S = max m (longL (l.drop k)) ∧ Below w.heap.size w wr) (fun _ v8 _ => n - (intOf v8).toNat)
  case atStart => exact ⟨0, 0, Nat.zero_le _, rfl, rfl, by rw [Nat.zero_max]; exact HK.out.symm, Below.refl _ _⟩
  case round =>
    obtain ⟨k, m, hk, rfl, rfl, hacc, ho⟩ := hrel
    have hln := HL.out.len
    by_cases hlt : k < n
    · have hkl : k < l.length := by omega
      obtain ⟨b, o, rfl, hcs⟩ := lab_cells HL.out.lies hkl
      obtain ⟨hc0, hc1⟩ := hcs _ ho
      rw [longL_at l k hkl] at hacc
      generalize l[k] = x at *
      obtain ⟨x1, x2⟩ := x
      simp only [] at hc0 hc1 hacc
      have HO := Lib.hid (And.intro ho hacc)
      clear ho hln hcs hacc
      rcases Nat.lt_or_ge m x1.size with h1 | h1 <;> rcases Nat.lt_or_ge m x2.size with h2 | h2 <;> rcases Nat.lt_or_ge x1.size x2.size with h3 | h3
      all_goals first | (exfalso; omega) | (
        go_wp2_with fail
        go_roundw
        case rel => exact ⟨k + 1, max m (max x1.size x2.size), by omega, by go_num, by congr 1; omega, by rw [HO.out.2]; omega, HO.out.1.alloc HO.out.1.size _⟩
        case measure => simp [intOf]; omega)
    · obtain rfl : k = n := by omega
      rw [List.drop_of_length_le (by omega)] at hacc
      have hS : S = m := by rw [hacc]; exact Nat.max_zero m
      subst hS
      have HO := Lib.hid ho
      clear ho hacc
      go_wp2_with fail
      go_ret
      exact ⟨rfl, HO.out⟩
end Go.Proofs.Ytgnifdkoaajboaa.FrW
