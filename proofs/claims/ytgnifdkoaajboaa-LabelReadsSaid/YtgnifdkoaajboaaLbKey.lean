/-
  label.Key: THE WALK.
-/
import Derived.Test.YtgnifdkoaajboaaLbBld
import Derived.Test.YtgnifdkoaajboaaLabGet
import Derived.Deep.RegionHeld3
namespace Go.Proofs.Ytgnifdkoaajboaa.FrW
set_option linter.unusedVariables false
open Go.RowKit FrM LabM LbM LabW
def shortL (l : List Lab) : Prop := ∀ x ∈ l, x.1.size ≤ 300 ∧ x.2.size ≤ 300
theorem keyL_at (l : List Lab) (k : Nat) (h : k < l.length) : keyL (l.drop k) = text l[k].1.data.toList ++ (text l[k].2.data.toList ++ keyL (l.drop (k + 1))) := by
  rw [List.drop_eq_getElem_cons h, keyL]
set_option maxRecDepth 20000 in
set_option maxHeartbeats 2000000 in
theorem key_any (A : Option Addr) (n c : Nat) (l : List Lab) (w : World) (hl : Comes w 2 encL okL A n c l) (hn : n ≤ 10) (hs : shortL l) :
    Calls Try.prog 19 #[.slice A n c] w fun e w' => e = .returned (.string (bs (keyL l))) ∧ Below w.heap.size w w' := by
  have HL := Lib.hid hl
  have HS := Lib.hid hs
  have hcap : c ≤ 9223372036854775807 := hl.cap
  have hle := hl.le
  obtain ⟨S, hS⟩ : ∃ S, keyL l = S := ⟨_, rfl⟩
  rw [hS]
  have HK := Lib.hid hS
  clear hl hs hS
  go_enter Try.func19, Try.ntmps19
  go_wp2_with fail
  go_loopw [8] (fun v8 wr => ∃ (k : Nat) (acc : List UInt8), k ≤ n ∧ v8 = .int .i64 k ∧ acc.length ≤ k * 620 ∧ S = acc ++ keyL (l.drop k) ∧ Bd w.heap.size w.heap.size acc wr ∧ Below w.heap.size w wr) (fun v8 _ => n - (intOf v8).toNat)
  case atStart => exact ⟨0, [], Nat.zero_le _, rfl, Nat.zero_le _, HK.out.symm, Bd.fresh w, (Below.refl _ _).alloc (Nat.le_refl _) _⟩
  case round =>
    obtain ⟨k, acc, hk, rfl, hal, hacc, hbd, ho⟩ := hrel
    have hln := HL.out.len
    by_cases hlt : k < n
    · have hkl : k < l.length := by omega
      obtain ⟨b, o, rfl, hcs⟩ := lab_cells HL.out.lies hkl
      obtain ⟨hc0, hc1⟩ := hcs _ ho
      have hok := HS.out _ (List.getElem_mem hkl)
      rw [keyL_at l k hkl] at hacc
      generalize l[k] = x at *
      obtain ⟨x1, x2⟩ := x
      obtain ⟨hx1, hx2⟩ := hok
      simp only [] at hc0 hc1 hacc hx1 hx2
      have HO := Lib.hid (And.intro ho (And.intro hbd hacc))
      have hl1 : x1.data.toList.length = x1.size := by simp
      have hl2 : x2.data.toList.length = x2.size := by simp
      obtain ⟨m1, hm1⟩ : ∃ m, text x1.data.toList = m := ⟨_, rfl⟩
      obtain ⟨m2, hm2⟩ : ∃ m, text x2.data.toList = m := ⟨_, rfl⟩
      have hz1 : m1.length ≤ 310 := by rw [← hm1]; have := text_le x1.data.toList; omega
      have hz2 : m2.length ≤ 310 := by rw [← hm2]; have := text_le x2.data.toList; omega
      have C1 : Hid (∀ W : World, Calls Try.prog 37 #[.string x1] W fun e w' => e = .returned (.string (bs m1)) ∧ Below W.heap.size W w') := Lib.hid (fun W => by have := text_any x1.data.toList W (by omega); rw [hm1] at this; exact this)
      have C2 : Hid (∀ W : World, Calls Try.prog 37 #[.string x2] W fun e w' => e = .returned (.string (bs m2)) ∧ Below W.heap.size W w') := Lib.hid (fun W => by have := text_any x2.data.toList W (by omega); rw [hm2] at this; exact this)
      rw [hm1, hm2] at hacc
      have CW : Hid (∀ W : World, Bd w.heap.size w.heap.size acc W → w.heap.size ≤ W.heap.size → Calls Try.prog 36 #[.pointer (some ⟨w.heap.size, 0, none⟩), .string (bs m1 ++ bs m2)] W fun e w' => e = .returned (.tuple #[.int .i64 ((m1 ++ m2).length : Int), .nilIface]) ∧ Bd w.heap.size w.heap.size (acc ++ (m1 ++ m2)) w' ∧ Below w.heap.size W w' ∧ Keeps w.heap.size W w') := Lib.hid (fun W hb hz => by
        rw [bs_append]; exact writes_any _ _ acc (m1 ++ m2) W hb (by rw [List.length_append]; omega) hz)
      have hg0 : w.heap.size < wr.heap.size := hbd.lt
      have ho0 : Below w.heap.size w (wr.alloc (.cells #[.string x1, .string x2] 38 (0, 0))) := ho.alloc ho.size _
      have hbd0 : Bd w.heap.size w.heap.size acc (wr.alloc (.cells #[.string x1, .string x2] 38 (0, 0))) := hbd.later ((Below.refl _ _).alloc (Nat.le_refl _) _)
      have hx0 : (wr.alloc (.cells #[.string x1, .string x2] 38 (0, 0))).heap[wr.heap.size]? = some (.cells #[.string x1, .string x2] 38 (0, 0)) := heap_alloc_new wr _
      have HF := Lib.hid (And.intro hacc (And.intro hal (And.intro hz1 hz2)))
      have hzb1 : (bs m1).size ≤ 310 := by rw [bs_size]; exact hz1
      have hzb2 : (bs m2).size ≤ 310 := by rw [bs_size]; exact hz2
      obtain ⟨M1, hM1⟩ : ∃ M, bs m1 = M := ⟨_, rfl⟩
      obtain ⟨M2, hM2⟩ : ∃ M, bs m2 = M := ⟨_, rfl⟩
      rw [hM1] at hzb1 C1 CW
      rw [hM2] at hzb2 C2 CW
      have hadd : ∀ W : World, (Op.stringOp .add M1 M2).run Try.prog W = .ok (.string (M1 ++ M2)) W := fun W => run_string_add_sum W M1 M2 (by omega)
      have hadl : M1.size + M2.size ≤ 9223372036854775807 := by omega
      have K0 : (Below w.heap.size w (wr.alloc (.cells #[.string x1, .string x2] 38 (0, 0))) ∧ (wr.alloc (.cells #[.string x1, .string x2] 38 (0, 0))).heap[wr.heap.size]? = some (.cells #[.string x1, .string x2] 38 (0, 0))) ∧ (wr.alloc (.cells #[.string x1, .string x2] 38 (0, 0))).cell? ⟨wr.heap.size, 0, none⟩ = some (.string x1) ∧ (wr.alloc (.cells #[.string x1, .string x2] 38 (0, 0))).cell? ⟨wr.heap.size, 1, none⟩ = some (.string x2) :=
        ⟨⟨ho0, hx0⟩, by rw [cell_of_row _ _ _ _ _ _ hx0]; rfl, by rw [cell_of_row _ _ _ _ _ _ hx0]; rfl⟩
      have K1 := Lib.hid (fun (W W' : World) (h : Below w.heap.size w W ∧ W.heap[wr.heap.size]? = some (.cells #[.string x1, .string x2] 38 (0, 0))) (hb : Below w.heap.size W W') (hk : Keeps w.heap.size W W') =>
        (have hx := hk _ _ _ (by omega) (by decide) h.2; ⟨⟨h.1.trans hb, hx⟩, by rw [cell_of_row _ _ _ _ _ _ hx]; rfl, by rw [cell_of_row _ _ _ _ _ _ hx]; rfl⟩ :
          (Below w.heap.size w W' ∧ W'.heap[wr.heap.size]? = some (.cells #[.string x1, .string x2] 38 (0, 0))) ∧ W'.cell? ⟨wr.heap.size, 0, none⟩ = some (.string x1) ∧ W'.cell? ⟨wr.heap.size, 1, none⟩ = some (.string x2)))
      have KT := Lib.hid (fun (W W' : World) (h : Below w.heap.size w W ∧ W.heap[wr.heap.size]? = some (.cells #[.string x1, .string x2] 38 (0, 0))) (hb : Below W.heap.size W W') => K1.out W W' h (hb.mono h.1.size) (Keeps.of_below hb))
      have KB := Lib.hid (fun (W W' : World) (hb : Below (wr.alloc (.cells #[.string x1, .string x2] 38 (0, 0))).heap.size (wr.alloc (.cells #[.string x1, .string x2] 38 (0, 0))) W) (hb2 : Below W.heap.size W W') => (hbd0.later hb).later hb2)
      clear ho hln hcs hbd hacc hl1 hl2 hm1 hm2 hal hz1 hz2 hx1 hx2 hM1 hM2 ho0 hbd0
      clear hx0
      go_wp2_with fail
      clear hc0 hc1
      generalize (wr.alloc (.cells #[.string x1, .string x2] 38 (0, 0))) = W0 at *
      go_region_held3 (fun W : World => (Below w.heap.size w W ∧ W.heap[wr.heap.size]? = some (.cells #[.string x1, .string x2] 38 (0, 0))) ∧ W.cell? ⟨wr.heap.size, 0, none⟩ = some (.string x1) ∧ W.cell? ⟨wr.heap.size, 1, none⟩ = some (.string x2))
        (first | exact K0 | exact KT.out _ _ (And.left K0) (below_self_drew _) | exact KT.out _ _ (And.left (by assumption)) (by assumption) | exact K1.out _ _ (And.left (by assumption)) (by assumption) (by assumption))
        (first
          | (go_at_call 37; refine (C1.out _).mono ?_; rintro e w5 ⟨rfl, hb5⟩)
          | (go_at_call 37; refine (C2.out _).mono ?_; rintro e w6 ⟨rfl, hb6⟩)
          | (go_at_call 36; refine (CW.out _ (KB.out _ _ (below_draw hb5) hb6) (Nat.le_trans K0.1.1.size (Nat.le_trans hb5.size hb6.size))).mono ?_; rintro e w7 ⟨rfl, hbd7, hb7, hk7⟩))
      rename_i hh
      have HH := Lib.hid (And.intro hh.1.1 hbd7)
      clear hh hbd7 hb7 hk7 hb5 hb6 K0 K1 KT KB C1 C2 CW hadd hadl hzb1 hzb2
      go_wp2_with fail
      go_round
      case rel => exact ⟨k + 1, acc ++ (m1 ++ m2), by omega, by go_num, by have := HF.out; rw [List.length_append, List.length_append]; omega, by rw [HF.out.1]; simp, HH.out.2, HH.out.1⟩
      case measure => simp [intOf]; omega
    · have hkn : k = n := by omega
      subst hkn
      rw [List.drop_of_length_le (by omega)] at hacc
      have hS : S = acc := by rw [hacc]; simp [keyL]
      subst hS
      have CB := Lib.hid (fun (W : World) (hb : Bd w.heap.size w.heap.size S W) (hz : w.heap.size ≤ W.heap.size) => bstring_any w.heap.size w.heap.size S W hb hz)
      have HH := Lib.hid (And.intro ho hbd)
      clear ho hbd hacc
      go_wp2_with fail
      refine (CB.out _ HH.out.2 HH.out.1.size).mono ?_
      rintro e w8 ⟨rfl, hb8⟩
      go_wp2
      go_ret
      exact ⟨rfl, HH.out.1.trans hb8⟩
end Go.Proofs.Ytgnifdkoaajboaa.FrW
