/-
  label.Check: THE WALK.
-/
import Derived.Test.YtgnifdkoaajboaaLabCheck
import Derived.WalkMore
import Derived.Deep.LoopGhost
namespace Go.Proofs.Ytgnifdkoaajboaa.LabW
open Go.RowKit Go.Shelf LabM
theorem bytesLess_ltB (a b : Txt) : Op.bytesLess a b = ltB a b := by
  induction a generalizing b with
  | nil => cases b <;> rfl
  | cons x a ih =>
    cases b with
    | nil => rfl
    | cons y b =>
      unfold Op.bytesLess ltB
      rw [ih]
      by_cases h : x = y
      · subst h; simp
      · rw [if_neg h]
        have : (x == y) = false := by simpa using h
        rw [this, Bool.false_and, Bool.or_false, decide_eq_decide]
        exact UInt8.lt_iff_toNat_lt
theorem gt_yes {a b : ByteArray} (h : Op.bytesLess a.toList b.toList = false ∧ ¬ a.toList = b.toList) : ltB b.data.toList a.data.toList = true := by
  rw [← ltB_tri, ← toList_data, ← toList_data, ← bytesLess_ltB, h.1]
  simpa using h.2
theorem gt_no {a b : ByteArray} (h : ¬ (Op.bytesLess a.toList b.toList = false ∧ ¬ a.toList = b.toList)) : ltB b.data.toList a.data.toList = false := by
  cases e : ltB b.data.toList a.data.toList with
  | false => rfl
  | true =>
    rw [← ltB_tri, ← toList_data, ← toList_data, ← bytesLess_ltB] at e
    simp at e
    exact absurd e h
theorem allM_pos {s : ByteArray} {m : Nat} (h : allM s.data.toList m = true) : 1 ≤ s.size := by
  unfold allM at h
  simp only [Bool.and_eq_true] at h
  have h1 := h.1.2
  have h2 : s.data.toList.length = s.size := by simp
  cases e : s.data.toList with
  | nil => rw [e] at h1; cases h1
  | cons a t => rw [e] at h2; simp at h2; omega
theorem name_split (s : Txt) : nameB s = (allM s 2 && allM (s.take 1) 1) := (name_of_masks s).symm
theorem chk_no {l : List Lab} (h : chkL [] l = false) : checkB l = false := by unfold checkB; rw [h]; rfl
set_option maxHeartbeats 2000000 in
theorem check_any (A : Option Addr) (n c : Nat) (l : List Lab) (w : World) (hl : Comes w 2 encL okL A n c l) :
    Calls Try.prog 14 #[.slice A n c] w fun e w' => e = .returned (.int .i64 (errN (checkB l) 2)) ∧ Below w.heap.size w w' := by
  have HL := Lib.hid hl
  have hcap : c ≤ 9223372036854775807 := hl.cap
  have hle := hl.le
  clear hl
  go_enter Try.func14, Try.ntmps14
  go_wp2_with fail
  go_step3
  go_wp2
  go_step3
  go_wp2
  go_loopw [3, 8] (fun v3 v8 wr => ∃ (k : Nat) (last : ByteArray), k ≤ n ∧ v8 = .int .i64 k ∧ v3 = .string last ∧ last.size ≤ maxLen ∧ chkL [] l = chkL last.data.toList (l.drop k) ∧ Below w.heap.size w wr) (fun _ v8 _ => n - (intOf v8).toNat)
  case atStart => exact ⟨0, ⟨#[]⟩, Nat.zero_le _, rfl, rfl, by decide, rfl, Below.refl _ _⟩
  case round =>
    obtain ⟨k, last, hk, rfl, rfl, hls, hg, ho⟩ := hrel
    have hln := HL.out.len
    by_cases hlt : k < n
    · have hkl : k < l.length := by omega
      obtain ⟨b, o, rfl, hcs⟩ := lab_cells HL.out.lies hkl
      obtain ⟨hc0, hc1⟩ := hcs _ ho
      have hok := HL.out.ok _ (List.getElem_mem hkl)
      rw [chkL_at l _ k hkl] at hg
      generalize l[k] = x at *
      obtain ⟨x1, x2⟩ := x
      obtain ⟨hx1, hx2⟩ := hok
      simp only [] at hc0 hc1 hg hx1 hx2
      have HO := Lib.hid ho
      have HG := Lib.hid hg
      clear ho hln hcs hg
      go_wp2_with fail
      · have hasm : Op.bytesLess x1.toList last.toList = false ∧ ¬ x1.toList = last.toList := by assumption
        have hgt := gt_yes hasm
        have hne : (x1.toList == last.toList) = false := by simpa using hasm.2
        clear hasm
        have hbelow0 : Below w.heap.size w (wr.alloc (.cells #[.string x1, .string x2] 38)) := HO.out.alloc HO.out.size _
        refine (lall_any x1 2 _ hx1 (by decide)).mono ?_
        rintro e w1 ⟨rfl, hb1⟩
        have hbox : w1.heap[wr.heap.size]? = some (.cells #[.string x1, .string x2] 38 (0, 0)) := (hb1.block _ (by simp)).trans (heap_alloc_new wr _)
        have hb2 : Below w.heap.size w w1 := hbelow0.trans (hb1.mono (by have := HO.out.size; simp; omega))
        cases hN2 : allM x1.data.toList 2
        · have hno : checkB l = false := chk_no (by rw [HG.out, name_split, hN2]; simp)
          have HB := Lib.hid (And.intro hb2 hno)
          clear hbox hb1 hb2 hbelow0 hN2 hno
          go_wp2_with fail
          rw [Exit.noGoto_ret]
          go_ret
          exact ⟨by rw [HB.out.2]; rfl, HB.out.1⟩
        · have hpos := allM_pos hN2
          have hsl := slice_to (P := Try.prog) Try.underlying9 x1 1 1 rfl hpos
          have hy0 : w1.cell? ⟨wr.heap.size, 0, none⟩ = some (.string x1) := by rw [cell_of_row w1 _ _ _ _ _ hbox]; rfl
          have hxe : (x1.extract 0 1).data.toList = x1.data.toList.take 1 := by simp
          obtain ⟨y, hy⟩ : ∃ y, x1.extract 0 1 = y := ⟨_, rfl⟩
          rw [hy] at hsl hxe
          have hys : y.size ≤ maxLen := by rw [← hy]; have := hx1; simp; omega
          have HBX := Lib.hid (And.intro hbox (And.intro hb2 (And.intro hxe hN2)))
          clear hbox hb1 hb2 hbelow0 hN2 hy hxe
          go_wp2_with fail
          refine (lall_any y 1 _ hys (by decide)).mono ?_
          rintro e w2 ⟨rfl, hb3⟩
          have hbox := (hb3.block _ (Array.getElem?_eq_some_iff.1 HBX.out.1).1).trans HBX.out.1
          have hb4 := later HBX.out.2.1 hb3
          have hz1 : w2.cell? ⟨wr.heap.size, 1, none⟩ = some (.string x2) := by rw [cell_of_row w2 _ _ _ _ _ hbox]; rfl
          cases hN1 : allM y.data.toList 1
          · have hno : checkB l = false := chk_no (by rw [HG.out, name_split, ← HBX.out.2.2.1, hN1]; simp)
            have HB := Lib.hid (And.intro hb4 hno)
            clear hbox hb3 hb4 hN1 hno hsl hy0
            go_wp2_with fail
            rw [Exit.noGoto_ret]
            go_ret
            exact ⟨by rw [HB.out.2]; rfl, HB.out.1⟩
          · have HBY := Lib.hid (And.intro hbox (And.intro hb4 hN1))
            clear hbox hb3 hb4 hN1 hsl hy0
            go_wp2_with fail
            refine (lall_any x2 4 _ hx2 (by decide)).mono ?_
            rintro e w3 ⟨rfl, hb5⟩
            have hbox := (hb5.block _ (Array.getElem?_eq_some_iff.1 HBY.out.1).1).trans HBY.out.1
            have hb6 := later HBY.out.2.1 hb5
            have hz0 : w3.cell? ⟨wr.heap.size, 0, none⟩ = some (.string x1) := by rw [cell_of_row w3 _ _ _ _ _ hbox]; rfl
            cases hV : allM x2.data.toList 4
            · have hno : checkB l = false := chk_no (by rw [HG.out, ← value_of_masks x2.data.toList, hV]; simp)
              have HB := Lib.hid (And.intro hb6 hno)
              clear hbox hb5 hb6 hV hno hz1 hz0
              go_wp2_with fail
              rw [Exit.noGoto_ret]
              go_ret
              exact ⟨by rw [HB.out.2]; rfl, HB.out.1⟩
            · have hyes : chkL [] l = chkL x1.data.toList (l.drop (k + 1)) := by
                rw [HG.out, name_split, HBX.out.2.2.2, ← HBX.out.2.2.1, HBY.out.2.2, ← value_of_masks x2.data.toList, hV, hgt]; rfl
              have HB := Lib.hid (And.intro hb6 hyes)
              clear hbox hb5 hb6 hV hyes hz1
              go_wp2_with fail
              go_roundw
              case rel => exact ⟨k + 1, x1, by omega, by go_num, rfl, hx1, HB.out.2, HB.out.1⟩
              case measure => simp [intOf]; omega
      · have hgt := gt_no (by assumption)
        have hno : checkB l = false := chk_no (by rw [HG.out, hgt]; simp)
        rw [Exit.noGoto_ret]
        go_ret
        exact ⟨by rw [hno]; rfl, HO.out.alloc HO.out.size _⟩
    · obtain rfl : k = n := by omega
      rw [chkL_end l _ k (by omega)] at hg
      have HO := Lib.hid ho
      by_cases h0 : k = 0
      · have hno : checkB l = false := by
          have : l = [] := List.length_eq_zero_iff.1 (by omega)
          rw [this]; rfl
        have HN := Lib.hid hno
        clear ho hg hno hln
        subst h0
        go_wp2_with fail
        rw [Exit.noGoto_ret]
        go_ret
        exact ⟨by rw [HN.out]; rfl, HO.out⟩
      · have hb0 : ((k : Int) == 0) = false := by simp; omega
        have hem : l.isEmpty = false := by
          cases l with
          | nil => simp at hln; omega
          | cons a t => rfl
        by_cases h6 : 6 < k
        · have hno : checkB l = false := by
            unfold checkB; rw [decide_eq_false (by omega)]; simp
          have HN := Lib.hid hno
          clear ho hg hno hln hem
          go_wp2_with fail
          rw [Exit.noGoto_ret]
          go_ret
          exact ⟨by rw [HN.out]; rfl, HO.out⟩
        · have hno : checkB l = true := by
            unfold checkB; rw [hg, hem, decide_eq_true (by omega)]; rfl
          have HN := Lib.hid hno
          clear ho hg hno hln hem
          go_wp2_with fail
          rw [Exit.noGoto_ret]
          go_ret
          exact ⟨by rw [HN.out]; rfl, HO.out⟩
end Go.Proofs.Ytgnifdkoaajboaa.LabW
