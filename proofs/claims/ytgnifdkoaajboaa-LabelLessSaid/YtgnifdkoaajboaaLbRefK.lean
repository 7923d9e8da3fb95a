/-
  alluviumref06.Key: THE WALK.
-/
import Derived.Test.YtgnifdkoaajboaaLbRefS
namespace Go.Proofs.Ytgnifdkoaajboaa.FrW
set_option linter.unusedVariables false
open Go.RowKit FrM LabM LbM LabW
set_option maxRecDepth 20000 in
set_option maxHeartbeats 2000000 in
theorem rkey_any (A : Option Addr) (n c : Nat) (l : List Lab) (w : World) (hl : Comes w 2 encL okL A n c l) (hn : n ≤ 10) (hs : shortL l) :
    Calls Try.prog 20 #[.slice A n c] w fun e w' => e = .returned (.string (bs (keyL l))) ∧ Below w.heap.size w w' := by
  have HL := Lib.hid hl
  have HS := Lib.hid hs
  have hcap : c ≤ 9223372036854775807 := hl.cap
  have hle := hl.le
  obtain ⟨S, hS⟩ : ∃ S, keyL l = S := ⟨_, rfl⟩
  rw [hS]
  have HK := Lib.hid hS
  clear hl hs hS
  go_enter Try.func20, Try.ntmps20
  go_wp2_with fail
  go_loopw [3, 4] (fun v3 v4 wr => ∃ (k : Nat) (acc : List UInt8), k ≤ n ∧ v4 = .int .i64 k ∧ v3 = .string (bs acc) ∧ acc.length ≤ k * 620 ∧ S = acc ++ keyL (l.drop k) ∧ Below w.heap.size w wr) (fun _ v4 _ => n - (intOf v4).toNat)
  case atStart => exact ⟨0, [], Nat.zero_le _, rfl, rfl, Nat.zero_le _, HK.out.symm, Below.refl _ _⟩
  case round =>
    obtain ⟨k, acc, hk, rfl, rfl, hal, hacc, ho⟩ := hrel
    have hln := HL.out.len
    by_cases hlt : k < n
    · have hkl : k < l.length := by omega
      obtain ⟨b, o, rfl, hcs⟩ := lab_cells HL.out.lies hkl
      obtain ⟨hc0, hc1⟩ := hcs _ ho
      have hok := HS.out _ (List.getElem_mem hkl)
      rw [keyL_at l k hkl] at hacc
      generalize l[k] = x at *
      obtain ⟨x1, x2⟩ := x
      obtain ⟨hx1, hx2⟩ := hok
      simp only [] at hc0 hc1 hacc hx1 hx2 hcs
      have hl1 : x1.data.toList.length = x1.size := by simp
      have hl2 : x2.data.toList.length = x2.size := by simp
      obtain ⟨m1, hm1⟩ : ∃ m, text x1.data.toList = m := ⟨_, rfl⟩
      obtain ⟨m2, hm2⟩ : ∃ m, text x2.data.toList = m := ⟨_, rfl⟩
      have hz1 : m1.length ≤ 310 := by rw [← hm1]; have := text_le x1.data.toList; omega
      have hz2 : m2.length ≤ 310 := by rw [← hm2]; have := text_le x2.data.toList; omega
      have C1 : Hid (∀ W : World, Calls Try.prog 39 #[.string x1] W fun e w' => e = .returned (.string (bs m1)) ∧ Below W.heap.size W w') := Lib.hid (fun W => by have := rtext_any x1.data.toList W (by omega); rw [hm1] at this; exact this)
      have C2 : Hid (∀ W : World, Calls Try.prog 39 #[.string x2] W fun e w' => e = .returned (.string (bs m2)) ∧ Below W.heap.size W w') := Lib.hid (fun W => by have := rtext_any x2.data.toList W (by omega); rw [hm2] at this; exact this)
      rw [hm1, hm2] at hacc
      have hzb1 : (bs m1).size ≤ 310 := by rw [bs_size]; exact hz1
      have hzb2 : (bs m2).size ≤ 310 := by rw [bs_size]; exact hz2
      have hzb0 : (bs acc).size ≤ 6200 := by rw [bs_size]; omega
      have HE : Hid (bs acc ++ bs m1 ++ bs m2 = bs (acc ++ (m1 ++ m2))) := Lib.hid (by rw [bs_append, bs_append, List.append_assoc])
      obtain ⟨M0, hM0⟩ : ∃ M, bs acc = M := ⟨_, rfl⟩
      obtain ⟨M1, hM1⟩ : ∃ M, bs m1 = M := ⟨_, rfl⟩
      obtain ⟨M2, hM2⟩ : ∃ M, bs m2 = M := ⟨_, rfl⟩
      rw [hM0] at hzb0 HE ⊢
      rw [hM1] at hzb1 C1 HE
      rw [hM2] at hzb2 C2 HE
      have hadd1 : ∀ W : World, (Op.stringOp .add M0 M1).run Try.prog W = .ok (.string (M0 ++ M1)) W := fun W => run_string_add_sum W M0 M1 (by omega)
      have hadd2 : ∀ W : World, (Op.stringOp .add (M0 ++ M1) M2).run Try.prog W = .ok (.string (M0 ++ M1 ++ M2)) W := fun W => run_string_add_sum W (M0 ++ M1) M2 (by rw [ByteArray.size_append]; omega)
      have K := Lib.hid (fun (W W' : World) (h : Below w.heap.size w W) (hb' : Below W.heap.size W W') =>
        (⟨later h hb', hcs _ (later h hb')⟩ : Below w.heap.size w W' ∧ W'.cell? ⟨b, o + k * 2, none⟩ = some (.string x1) ∧ W'.cell? ⟨b, o + k * 2 + 1, none⟩ = some (.string x2)))
      have K0 := K.out _ _ ho (below_self_drew _)
      have HF := Lib.hid (And.intro hacc (And.intro hal (And.intro hz1 hz2)))
      have k0 : (0 : Int) ≤ (k : Int) := by omega
      have k1 : (k : Int) < (n : Int) := by omega
      clear ho hln hcs hacc hl1 hl2 hm1 hm2 hal hz1 hz2 hx1 hx2 hM0 hM1 hM2 hc0 hc1
      go_wp2_with fail
      go_region_held3 (fun W : World => Below w.heap.size w W ∧ W.cell? ⟨b, o + k * 2, none⟩ = some (.string x1) ∧ W.cell? ⟨b, o + k * 2 + 1, none⟩ = some (.string x2))
        (first | exact K0 | exact K.out _ _ (And.left (by assumption)) (by assumption))
        (first
          | (go_at_call 39; refine (C1.out _).mono ?_; rintro e w5 ⟨rfl, hb5⟩)
          | (go_at_call 39; refine (C2.out _).mono ?_; rintro e w6 ⟨rfl, hb6⟩))
      rename_i hh
      have HH := Lib.hid hh.1
      clear hh hb5 hb6 K0 K C1 C2 hadd1 hadd2 hzb1 hzb2 hzb0
      go_wp2_with fail
      go_round
      case rel => exact ⟨k + 1, acc ++ (m1 ++ m2), by omega, by go_num, by rw [← HE.out], by have := HF.out; rw [List.length_append, List.length_append]; omega, by rw [HF.out.1]; simp, HH.out⟩
      case measure => simp [intOf]; omega
    · have hkn : k = n := by omega
      subst hkn
      rw [List.drop_of_length_le (by omega)] at hacc
      have hS : S = acc := by rw [hacc]; simp [keyL]
      subst hS
      have HH := Lib.hid ho
      clear ho hacc
      go_wp2_with fail
      go_ret
      exact ⟨rfl, HH.out⟩
end Go.Proofs.Ytgnifdkoaajboaa.FrW
