/-
  alluviumref06.Show: THE WALK.
-/
import Derived.Test.YtgnifdkoaajboaaLbShow
import Derived.BigRegion
namespace Go.Proofs.Ytgnifdkoaajboaa.FrW
set_option linter.unusedVariables false
open Go.RowKit FrM LabM LbM LabW
/-- Two strings, added, by the bytes they are. -/
theorem sadd (a b : List UInt8) (A B C : ByteArray) (hA : bs a = A) (hB : bs b = B) (hC : bs (a ++ b) = C) (h : a.length + b.length ≤ 1099511627776) : ∀ W : World, (Op.stringOp .add A B).run Try.prog W = .ok (.string C) W := by
  subst hA hB hC
  intro W
  rw [← bs_append]
  exact run_string_add_sum W (bs a) (bs b) (by rw [bs_size, bs_size]; omega)
/-- One byte in a new block, as a string. -/
theorem conv_byte (c : UInt8) (x : Int) (hx : (c.toNat : Int) = x) (W : World) (g : Nat) (hg : W.heap.size = g) : (convert 42 9 (.slice (some ⟨g, 0, none⟩) 1 1)).run Try.prog (W.alloc (.cells #[.int .u8 x] 5 (0, 0))) = .ok (.string (bs [c])) (W.alloc (.cells #[.int .u8 x] 5 (0, 0))) := by
  subst hg
  refine run_convert_bytes_back (P := Try.prog) _ 42 9 5 ⟨W.heap.size, 0, none⟩ 1 [c] Try.underlying42 Try.underlying5 Try.underlying9 ?_
  intro j hj
  have hj4 : j < 1 := hj
  obtain rfl : j = 0 := by omega
  have h2 := heap_alloc_new W (.cells #[.int .u8 x] 5 (0, 0))
  show World.cell? _ ⟨W.heap.size, 0, none⟩ = _
  rw [cell_of_row _ _ _ _ _ _ h2]
  show some (Value.int .u8 x) = some (Value.int .u8 (c.toNat : Int))
  rw [hx]
set_option maxRecDepth 20000 in
set_option maxHeartbeats 4000000 in
theorem rshow_any (A : Option Addr) (n c : Nat) (l : List Lab) (w : World) (hl : Comes w 2 encL okL A n c l) (hn : n ≤ 10) (hs : shortL l) :
    Calls Try.prog 22 #[.slice A n c] w fun e w' => e = .returned (.string (bs (showL l))) ∧ Below w.heap.size w w' := by
  have HL := Lib.hid hl
  have HS := Lib.hid hs
  have hcap : c ≤ 9223372036854775807 := hl.cap
  have hle := hl.le
  obtain ⟨S, hS⟩ : ∃ S, showL l = S := ⟨_, rfl⟩
  rw [hS]
  have HK := Lib.hid hS
  clear hl hs hS
  go_enter Try.func22, Try.ntmps22
  go_wp2_with fail
  go_loopw [3, 4, 5, 6] (fun v3 v4 _ _ wr => ∃ (k : Nat) (acc : List UInt8), k ≤ n ∧ v4 = .int .i64 k ∧ v3 = .string (bs acc) ∧ acc.length ≤ 1 + k * 910 ∧ S = acc ++ (shG k (l.drop k) ++ [125]) ∧ Below w.heap.size w wr) (fun _ v4 _ _ _ => n - (intOf v4).toNat)
  case atStart => exact ⟨0, [123], Nat.zero_le _, rfl, rfl, Nat.le_refl _, HK.out.symm, Below.refl _ _⟩
  case round =>
    obtain ⟨k, acc, hk, rfl, rfl, hal, hacc, ho⟩ := hrel
    have hln := HL.out.len
    by_cases hlt : k < n
    · have hkl : k < l.length := by omega
      obtain ⟨b, o, rfl, hcs⟩ := lab_cells HL.out.lies hkl
      obtain ⟨hc0, hc1⟩ := hcs _ ho
      have hok := HS.out _ (List.getElem_mem hkl)
      rw [shG_at l k hkl] at hacc
      generalize l[k] = x at *
      obtain ⟨x1, x2⟩ := x
      obtain ⟨hx1, hx2⟩ := hok
      simp only [] at hc0 hc1 hacc hx1 hx2 hcs
      obtain ⟨R, hR⟩ : ∃ R, shG (k + 1) (l.drop (k + 1)) ++ [125] = R := ⟨_, rfl⟩
      have HR := Lib.hid hR
      rw [hR] at hacc
      have hl1 : x1.data.toList.length = x1.size := by simp
      have hl2 : x2.data.toList.length = x2.size := by simp
      obtain ⟨acc1, hacc1⟩ : ∃ acc1 : List UInt8, (if 0 < k then acc ++ [44] else acc) = acc1 := ⟨_, rfl⟩
      have hS1 : S = acc1 ++ (x1.data.toList ++ (61 :: 34 :: (esc x2.data.toList ++ 34 :: R))) := by
        rw [hacc, ← hacc1]; split <;> simp
      have hl3 : acc1.length ≤ 2 + k * 910 := by rw [← hacc1]; split <;> (try rw [List.length_append, List.length_singleton]) <;> omega
      obtain ⟨M, hM⟩ : ∃ M, bs acc = M := ⟨_, rfl⟩
      rw [hM]
      obtain ⟨M0, hM0⟩ : ∃ M, bs acc1 = M := ⟨_, rfl⟩
      obtain ⟨M1, hM1⟩ : ∃ M, bs (acc1 ++ x1.data.toList) = M := ⟨_, rfl⟩
      obtain ⟨M2, hM2⟩ : ∃ M, bs (acc1 ++ x1.data.toList ++ [61]) = M := ⟨_, rfl⟩
      obtain ⟨M3, hM3⟩ : ∃ M, bs (acc1 ++ x1.data.toList ++ [61] ++ [34]) = M := ⟨_, rfl⟩
      have hadd1 := sadd acc1 x1.data.toList M0 x1 M1 hM0 (bs_of x1) hM1 (by omega)
      have hadd2 := sadd (acc1 ++ x1.data.toList) [61] M1 ⟨#[61]⟩ M2 hM1 rfl hM2 (by rw [List.length_append]; simp only [List.length_cons, List.length_nil]; omega)
      have hadd3 := sadd (acc1 ++ x1.data.toList ++ [61]) [34] M2 ⟨#[34]⟩ M3 hM2 rfl hM3 (by rw [List.length_append, List.length_append]; simp only [List.length_cons, List.length_nil]; omega)
      have hadd0 : 0 < k → ∀ W : World, (Op.stringOp .add M ⟨#[44]⟩).run Try.prog W = .ok (.string M0) W := fun h => sadd acc [44] M ⟨#[44]⟩ M0 hM rfl (by rw [← hM0, ← hacc1, if_pos h]) (by simp only [List.length_cons, List.length_nil]; omega)
      have hadd00 : ¬ 0 < k → M = M0 := fun h => by rw [← hM, ← hM0, ← hacc1, if_neg h]
      obtain ⟨acc3, hacc3⟩ : ∃ a, acc1 ++ x1.data.toList ++ [61] ++ [34] = a := ⟨_, rfl⟩
      rw [hacc3] at hM3
      have hS3 : S = acc3 ++ (esc x2.data.toList ++ 34 :: R) := by rw [hS1, ← hacc3]; simp
      have hl4 : acc3.length ≤ 304 + k * 910 := by rw [← hacc3]; simp only [List.length_append, List.length_cons, List.length_nil]; omega
      have hcA : (convert 42 9 (.slice (some ⟨wr.heap.size, 0, none⟩) 1 1)).run Try.prog (wr.drew.alloc (.cells #[.int .u8 34] 5 (0, 0))) = .ok (.string ⟨#[34]⟩) (wr.drew.alloc (.cells #[.int .u8 34] 5 (0, 0))) := conv_byte 34 34 rfl wr.drew wr.heap.size rfl
      have hcB : (convert 42 9 (.slice (some ⟨wr.heap.size, 0, none⟩) 1 1)).run Try.prog (wr.alloc (.cells #[.int .u8 34] 5 (0, 0))).drew = .ok (.string ⟨#[34]⟩) (wr.alloc (.cells #[.int .u8 34] 5 (0, 0))).drew := conv_byte 34 34 rfl wr.drew wr.heap.size rfl
      have hcC : (convert 42 9 (.slice (some ⟨wr.heap.size, 0, none⟩) 1 1)).run Try.prog (wr.alloc (.cells #[.int .u8 34] 5 (0, 0))) = .ok (.string ⟨#[34]⟩) (wr.alloc (.cells #[.int .u8 34] 5 (0, 0))) := conv_byte 34 34 rfl wr wr.heap.size rfl
      have hdr1 : (wr.alloc (.cells #[.int .u8 34] 5 (0, 0))).cell? ⟨b, o + k * 2, none⟩ = some (.string x1) := (hcs _ (ho.alloc ho.size _)).1
      have HW3 := Lib.hid (show Below w.heap.size w (wr.drew.alloc (.cells #[.int .u8 34] 5 (0, 0))) from (later ho (below_self_drew wr)).alloc ho.size _)
      have HI0 := Lib.hid (And.intro hS3 (And.intro hl4 (And.intro hM3 (And.intro hl2 hx2))))
      have HCS := Lib.hid hcs
      have HG := Lib.hid (fun (i : Nat) (h : i < x2.size) (h2 : i < x2.data.toList.length) => (show x2[i]'h = x2.data.toList[i]'h2 from rfl))
      have i0 : (0 : Int) ≤ (k : Int) := by omega
      have i1 : (k : Int) < (n : Int) := by omega
      obtain ⟨q, hq⟩ : ∃ q, x2.size = q := ⟨_, rfl⟩
      have hq300 : q ≤ 300 := by omega
      have hdr0 : wr.drew.cell? ⟨b, o + k * 2, none⟩ = some (.string x1) := hc0
      have HO := Lib.hid ho
      have hk0 : (0 < k ∧ decide ((0 : Int) < (k : Int)) = true) ∨ (¬ 0 < k ∧ decide ((0 : Int) < (k : Int)) = false) := by
        rcases Nat.eq_zero_or_pos k with h | h
        · right; exact ⟨by omega, by simp; omega⟩
        · left; exact ⟨h, by simp; omega⟩
      clear ho hln hcs hacc hl1 hl2 hal hx1 hx2 hR hM hM0 hM1 hM2 hM3 hacc1 hacc3 hS1 hS3 hl3 hl4
      rcases hk0 with ⟨hk1, hk2⟩ | ⟨hk1, hk2⟩
      all_goals (
        first
          | (have hadd0' := hadd0 hk1; clear hadd0 hadd00; have hk3 : (k : Int) > 0 := by omega)
          | (have hMM := hadd00 hk1; subst hMM; clear hadd0 hadd00; have hk3 : ¬ (k : Int) > 0 := by omega)
        have HK1 := Lib.hid hk1
        clear hk1
        go_wp2_with fail
        go_region
        clear hadd1 hadd2 hadd3 hcA hcB hcC hdr0 hdr1 hc0
        go_wp2_with fail
        go_loopw [3, 5, 6] (fun v3 v5 _ W => ∃ (j : Nat) (a : List UInt8), j ≤ q ∧ v5 = .int .i64 j ∧ v3 = .string (bs a) ∧ a.length ≤ 304 + k * 910 + 2 * j ∧ S = a ++ (esc (x2.data.toList.drop j) ++ 34 :: R) ∧ Below w.heap.size w W) (fun _ v5 _ _ => q - (intOf v5).toNat)
        case atStart => exact ⟨0, acc3, Nat.zero_le _, rfl, by rw [HI0.out.2.2.1], HI0.out.2.1, HI0.out.1, HW3.out⟩
        case round =>
          clear HW3 HO
          obtain ⟨j, a, hj, rfl, rfl, hal, hacc, ho⟩ := hrel
          have hc1 := (HCS.out _ ho).2
          by_cases hjq : j < q
          · have hjx : j < x2.size := by omega
            have hjl : j < x2.data.toList.length := by have := HI0.out; omega
            have hg := HG.out j hjx hjl
            rw [esc_at _ j hjl] at hacc
            obtain ⟨y, hy⟩ : ∃ y, x2.data.toList[j] = y := ⟨_, rfl⟩
            rw [hy] at hg hacc
            obtain ⟨z, hz⟩ : ∃ z, y.toNat = z := ⟨_, rfl⟩
            have hgz : x2[j].toNat = z := by rw [hg]; exact hz
            have y34 : y = 34 ↔ z = 34 := by rw [← hz]; exact UInt8.toNat_inj.symm
            have y92 : y = 92 ↔ z = 92 := by rw [← hz]; exact UInt8.toNat_inj.symm
            have j0 : (0 : Int) ≤ (j : Int) := by omega
            have j1 : (j : Int) < (q : Int) := by omega
            have hzz : (y.toNat : Int) = (z : Int) := by rw [hz]
            obtain ⟨T0, hT0⟩ : ∃ M, bs a = M := ⟨_, rfl⟩
            rw [hT0]
            by_cases h34 : z = 34 ∨ z = 92
            · rw [if_pos (by rw [y34, y92]; exact h34)] at hacc
              obtain ⟨T1, hT1⟩ : ∃ M, bs (a ++ [92]) = M := ⟨_, rfl⟩
              obtain ⟨T2, hT2⟩ : ∃ M, bs (a ++ [92] ++ [y]) = M := ⟨_, rfl⟩
              obtain ⟨Y, hY⟩ : ∃ M, bs [y] = M := ⟨_, rfl⟩
              have ha1 := sadd a [92] T0 ⟨#[92]⟩ T1 hT0 rfl hT1 (by simp only [List.length_cons, List.length_nil]; omega)
              have ha2 := sadd (a ++ [92]) [y] T1 Y T2 hT1 hY hT2 (by rw [List.length_append]; simp only [List.length_cons, List.length_nil]; omega)
              have hv1 : (convert 42 9 (.slice (some ⟨wr.heap.size, 0, none⟩) 1 1)).run Try.prog (wr.alloc (.cells #[.int .u8 92] 5 (0, 0))) = .ok (.string ⟨#[92]⟩) (wr.alloc (.cells #[.int .u8 92] 5 (0, 0))) := conv_byte 92 92 rfl wr _ rfl
              have hv2 : (convert 42 9 (.slice (some ⟨wr.heap.size + 1, 0, none⟩) 1 1)).run Try.prog ((wr.alloc (.cells #[.int .u8 92] 5 (0, 0))).alloc (.cells #[.int .u8 (z : Int)] 5 (0, 0))) = .ok (.string Y) ((wr.alloc (.cells #[.int .u8 92] 5 (0, 0))).alloc (.cells #[.int .u8 (z : Int)] 5 (0, 0))) := by rw [← hY]; exact conv_byte y z hzz _ _ (by simp)
              have HI := Lib.hid (And.intro hal (And.intro hacc (And.intro hT2 (show Below w.heap.size w ((wr.alloc (.cells #[.int .u8 92] 5 (0, 0))).alloc (.cells #[.int .u8 (z : Int)] 5 (0, 0))) from (ho.alloc ho.size _).alloc (Nat.le_trans ho.size (by simp)) _))))
              have hd34 : ((z : Int) == 34) = true ∨ (((z : Int) == 34) = false ∧ ((z : Int) == 92) = true) := by
                rcases h34 with h | h
                · left; simp; omega
                · right; constructor <;> simp <;> omega
              clear hg hy hal hacc hz hzz y34 y92 h34 hT0 hT1 hT2 hY ho
              rcases hd34 with hd | ⟨hd, hd2⟩
              all_goals (
                go_wp2_with fail
                go_roundw
                case rel => exact ⟨j + 1, a ++ [92] ++ [y], by omega, by go_num, by rw [HI.out.2.2.1], by have := HI.out.1; rw [List.length_append, List.length_append]; simp only [List.length_cons, List.length_nil]; omega, by rw [HI.out.2.1]; simp, HI.out.2.2.2⟩
                case measure => simp [intOf]; omega)
            · rw [if_neg (by rw [y34, y92]; exact h34)] at hacc
              obtain ⟨T2, hT2⟩ : ∃ M, bs (a ++ [y]) = M := ⟨_, rfl⟩
              obtain ⟨Y, hY⟩ : ∃ M, bs [y] = M := ⟨_, rfl⟩
              have ha2 := sadd a [y] T0 Y T2 hT0 hY hT2 (by simp only [List.length_cons, List.length_nil]; omega)
              have hv2 : (convert 42 9 (.slice (some ⟨wr.heap.size, 0, none⟩) 1 1)).run Try.prog (wr.alloc (.cells #[.int .u8 (z : Int)] 5 (0, 0))) = .ok (.string Y) (wr.alloc (.cells #[.int .u8 (z : Int)] 5 (0, 0))) := by rw [← hY]; exact conv_byte y z hzz _ _ rfl
              have HI := Lib.hid (And.intro hal (And.intro hacc (And.intro hT2 (show Below w.heap.size w (wr.alloc (.cells #[.int .u8 (z : Int)] 5 (0, 0))) from ho.alloc ho.size _))))
              have hd : ((z : Int) == 34) = false := by simp; omega
              have hd2 : ((z : Int) == 92) = false := by simp; omega
              clear hg hy hal hacc hz hzz y34 y92 h34 hT0 hT2 hY ho
              go_wp2_with fail
              go_roundw
              case rel => exact ⟨j + 1, a ++ [y], by omega, by go_num, by rw [HI.out.2.2.1], by have := HI.out.1; rw [List.length_append]; simp only [List.length_cons, List.length_nil]; omega, by rw [HI.out.2.1]; simp, HI.out.2.2.2⟩
              case measure => simp [intOf]; omega
          · have hjq : j = q := by omega
            rw [List.drop_of_length_le (by have := HI0.out; omega)] at hacc
            obtain ⟨T0, hT0⟩ : ∃ M, bs a = M := ⟨_, rfl⟩
            obtain ⟨T1, hT1⟩ : ∃ M, bs (a ++ [34]) = M := ⟨_, rfl⟩
            rw [hT0]
            have ha1 := sadd a [34] T0 ⟨#[34]⟩ T1 hT0 rfl hT1 (by simp only [List.length_cons, List.length_nil]; omega)
            have hv1 : (convert 42 9 (.slice (some ⟨wr.heap.size, 0, none⟩) 1 1)).run Try.prog (wr.alloc (.cells #[.int .u8 34] 5 (0, 0))) = .ok (.string ⟨#[34]⟩) (wr.alloc (.cells #[.int .u8 34] 5 (0, 0))) := conv_byte 34 34 rfl wr _ rfl
            have HI := Lib.hid (And.intro hal (And.intro (show S = a ++ 34 :: R from hacc) (And.intro hT1 (show Below w.heap.size w (wr.alloc (.cells #[.int .u8 34] 5 (0, 0))) from ho.alloc ho.size _))))
            clear hal hacc hT0 hT1 ho
            subst hjq
            go_wp2_with fail
            go_round
            case rel => exact ⟨k + 1, a ++ [34], by omega, by go_num, by rw [HI.out.2.2.1], by have := HI.out.1; rw [List.length_append]; simp only [List.length_cons, List.length_nil]; omega, by rw [HI.out.2.1, ← HR.out]; simp, HI.out.2.2.2⟩
            case measure => simp [intOf]; omega)
    · have hkn : k = n := by omega
      subst hkn
      rw [List.drop_of_length_le (by omega)] at hacc
      have HH := Lib.hid (And.intro ho (show S = acc ++ [125] from hacc))
      have hadd := sadd acc [125] (bs acc) ⟨#[125]⟩ (bs S) rfl rfl (by rw [HH.out.2]) (by simp only [List.length_cons, List.length_nil]; omega)
      obtain ⟨M, hM⟩ : ∃ M, bs acc = M := ⟨_, rfl⟩
      rw [hM] at hadd ⊢
      clear ho hacc hal hM
      go_wp2_with fail
      go_ret
      exact ⟨rfl, HH.out.1⟩
end Go.Proofs.Ytgnifdkoaajboaa.FrW
