/-
  alluviumref07.Between, Same, Row: THE WALKS.
-/
import Derived.Test.YtdacefmcnjoboaaMatSam
import Derived.Test.YtdacefmcnjoboaaEqs
namespace Go.Proofs.Ytdacefmcnjoboaa.LabW
open Go.RowKit Go.Shelf LabM
set_option maxHeartbeats 2000000 in
theorem rbetween_any (A : Option Addr) (n c : Nat) (l : List Sam) (f t : Int) (inn : Bool) (w : World) (hl : Comes w 2 encS okS A n c l) (hn : n ≤ 1000000) :
    Calls Try.prog 25 #[.slice A n c, .int .i64 f, .int .i64 t, .bool inn] w fun e w' => ∃ v, e = .returned v ∧ w'.ownsRow w.heap.size 52 2 v (l.filter (fun x => insideB f t x == inn)).length ((l.filter (fun x => insideB f t x == inn)).flatMap encS) ∧ Below w.heap.size w w' := by
  have HL := Lib.hid hl
  have hcap : c ≤ 9223372036854775807 := hl.cap
  have hle := hl.le
  clear hl
  go_enter Try.func25, Try.ntmps25
  go_wp2_with fail
  go_loopw [9, 10] (fun v9 v10 wr => ∃ k : Nat, k ≤ n ∧ v10 = .int .i64 k ∧ wr.ownsRow w.heap.size 52 2 v9 ((l.take k).filter (fun x => insideB f t x == inn)).length (((l.take k).filter (fun x => insideB f t x == inn)).flatMap encS) ∧ Below w.heap.size w wr) (fun _ v10 _ => n - (intOf v10).toNat)
  case atStart => exact ⟨0, Nat.zero_le _, rfl, World.ownsRow_nil _ _ _ _, Below.refl _ _⟩
  case round =>
    obtain ⟨k, hk, rfl, hown, ho⟩ := hrel
    have hln := HL.out.len
    by_cases hlt : k < n
    · have hkl : k < l.length := by omega
      obtain ⟨b, o, rfl, hcs⟩ := S_cells HL.out.lies hkl
      obtain ⟨hc0, hc1⟩ := hcs _ ho
      have htf := take_filter (fun x => insideB f t x == inn) l k hkl
      have hq : ((l.take k).filter (fun x => insideB f t x == inn)).length ≤ k := by
        have h1 := List.length_filter_le (fun x => insideB f t x == inn) (l.take k)
        have h2 := List.length_take_le k l
        omega
      generalize l[k] = x at *
      obtain ⟨x1, x2⟩ := x
      simp only [] at hc0 hc1 htf
      generalize (l.take k).filter (fun x => insideB f t x == inn) = F at *
      obtain ⟨q, hqq⟩ : ∃ q, F.length = q := ⟨_, rfl⟩
      rw [hqq] at hown hq
      have HO := Lib.hid ho
      have HF := Lib.hid (And.intro htf hqq)
      have i0 : (0 : Int) ≤ (k : Int) := by omega
      have i1 : (k : Int) < (n : Int) := by omega
      clear ho hln hcs htf hqq
      have hin : ∃ B, insideB f t (x1, x2) = B ∧ ((f ≤ x1 ∧ decide (x1 ≤ t) = B) ∨ (¬ f ≤ x1 ∧ B = false)) := by
        refine ⟨_, rfl, ?_⟩
        by_cases h : f ≤ x1
        · left; exact ⟨h, by unfold insideB; rw [decide_eq_true h]; rfl⟩
        · right; exact ⟨h, by unfold insideB; rw [decide_eq_false h]; rfl⟩
      obtain ⟨B, hB, hBc⟩ := hin
      rw [hB] at HF
      have HBB := Lib.hid hB
      clear hB
      have HW := Lib.hid hown
      clear hown
      by_cases hx : B = inn
      · subst hx
        rw [if_pos (by simp)] at HF
        rcases hBc with ⟨h1, h2⟩ | ⟨h1, rfl⟩
        · cases B
          · have hlt2 : ¬ x1 ≤ t := of_decide_eq_false h2
            have hown := HW.out
            clear HW h2
            go_wp2_with (at_builtin; go_must (refine wpList_append_one rfl _ _ 38 rfl w.heap.size 52 (.agg #[.int .i64 0, .int .u64 0]) 2 16 Try.underlying38 elemS rfl (by decide) wr hown rfl _ rfl rfl (one2 rfl rfl) (by omega) (by omega) HO.out.size ?_); intro v' w' hown' hb' hz')
            clear hown
            go_roundw
            case rel =>
              refine ⟨k + 1, by omega, by go_num, ?_, HO.out.trans hb'⟩
              rw [HF.out.1, List.length_append, HF.out.2, List.flatMap_append, List.flatMap_singleton]
              exact hown'
            case measure => simp [intOf]; omega
          · have hlt2 : x1 ≤ t := of_decide_eq_true h2
            have hown := HW.out
            clear HW h2
            go_wp2_with (at_builtin; go_must (refine wpList_append_one rfl _ _ 38 rfl w.heap.size 52 (.agg #[.int .i64 0, .int .u64 0]) 2 16 Try.underlying38 elemS rfl (by decide) wr hown rfl _ rfl rfl (one2 rfl rfl) (by omega) (by omega) HO.out.size ?_); intro v' w' hown' hb' hz')
            clear hown
            go_roundw
            case rel =>
              refine ⟨k + 1, by omega, by go_num, ?_, HO.out.trans hb'⟩
              rw [HF.out.1, List.length_append, HF.out.2, List.flatMap_append, List.flatMap_singleton]
              exact hown'
            case measure => simp [intOf]; omega
        · have hown := HW.out
          clear HW
          go_wp2_with (at_builtin; go_must (refine wpList_append_one rfl _ _ 38 rfl w.heap.size 52 (.agg #[.int .i64 0, .int .u64 0]) 2 16 Try.underlying38 elemS rfl (by decide) wr hown rfl _ rfl rfl (one2 rfl rfl) (by omega) (by omega) HO.out.size ?_); intro v' w' hown' hb' hz')
          clear hown
          go_roundw
          case rel =>
            refine ⟨k + 1, by omega, by go_num, ?_, HO.out.trans hb'⟩
            rw [HF.out.1, List.length_append, HF.out.2, List.flatMap_append, List.flatMap_singleton]
            exact hown'
          case measure => simp [intOf]; omega
      · have hxf : (B == inn) = false := by simpa using hx
        rw [hxf, if_neg (by decide), List.append_nil] at HF
        have hbn : inn = !B := by cases B <;> cases inn <;> simp at hx ⊢
        subst hbn
        clear hx hxf
        rcases hBc with ⟨h1, h2⟩ | ⟨h1, rfl⟩
        · cases B
          · have hlt2 : ¬ x1 ≤ t := of_decide_eq_false h2
            clear h2
            go_wp2_with fail
            go_roundw
            case rel => exact ⟨k + 1, by omega, by go_num, by rw [HF.out.1, HF.out.2]; exact HW.out, HO.out⟩
            case measure => simp [intOf]; omega
          · have hlt2 : x1 ≤ t := of_decide_eq_true h2
            clear h2
            go_wp2_with fail
            go_roundw
            case rel => exact ⟨k + 1, by omega, by go_num, by rw [HF.out.1, HF.out.2]; exact HW.out, HO.out⟩
            case measure => simp [intOf]; omega
        · go_wp2_with fail
          go_roundw
          case rel => exact ⟨k + 1, by omega, by go_num, by rw [HF.out.1, HF.out.2]; exact HW.out, HO.out⟩
          case measure => simp [intOf]; omega
    · obtain rfl : k = n := by omega
      rw [List.take_of_length_le (by omega)] at hown
      have HO := Lib.hid ho
      have HW := Lib.hid hown
      clear ho hown
      go_wp2_with fail
      go_ret
      exact ⟨_, rfl, HW.out, HO.out⟩
set_option maxRecDepth 20000 in
set_option maxHeartbeats 2000000 in
theorem rsame_any (A : Option Addr) (n c : Nat) (l : List Sam) (A2 : Option Addr) (n2 c2 : Nat) (l2 : List Sam) (w : World) (hl : Comes w 2 encS okS A n c l) (hl2 : Comes w 2 encS okS A2 n2 c2 l2) :
    Calls Try.prog 24 #[.slice A n c, .slice A2 n2 c2] w fun e w' => e = .returned (.bool (decide (l = l2))) ∧ Below w.heap.size w w' := by
  have HL := Lib.hid hl
  have HL2 := Lib.hid hl2
  have hcap : c ≤ 9223372036854775807 := hl.cap
  have hle := hl.le
  have hcap2 : c2 ≤ 9223372036854775807 := hl2.cap
  have hle2 := hl2.le
  clear hl hl2
  by_cases hnn : n = n2
  · subst hnn
    go_enter Try.func24, Try.ntmps24
    go_wp2_with fail
    go_loopw [5] (fun v5 wr => ∃ k : Nat, k ≤ n ∧ v5 = .int .i64 k ∧ l.take k = l2.take k ∧ Below w.heap.size w wr) (fun v5 _ => n - (intOf v5).toNat)
    case atStart => exact ⟨0, Nat.zero_le _, rfl, rfl, Below.refl _ _⟩
    case round =>
      obtain ⟨k, hk, rfl, ht, ho⟩ := hrel
      have hln := HL.out.len
      have hln2 := HL2.out.len
      by_cases hlt : k < n
      · have hkl : k < l.length := by omega
        have hkl2 : k < l2.length := by omega
        obtain ⟨b, o, rfl, hcs⟩ := S_cells HL.out.lies hkl
        obtain ⟨b2, o2, rfl, hcs2⟩ := S_cells HL2.out.lies hkl2
        obtain ⟨hc0, hc1⟩ := hcs _ ho
        obtain ⟨hd0, hd1⟩ := hcs2 _ ho
        have hs1 := take_snocL l k hkl
        have hs2 := take_snocL l2 k hkl2
        generalize l[k] = x at *
        generalize l2[k] = y at *
        obtain ⟨x1, x2⟩ := x
        obtain ⟨y1, y2⟩ := y
        simp only [] at hc0 hc1 hd0 hd1
        have HO := Lib.hid ho
        have HT := Lib.hid ht
        rw [← ht] at hs2
        have HS := Lib.hid (And.intro hs1 hs2)
        clear hs1 hs2
        have i0 : (0 : Int) ≤ (k : Int) := by omega
        have i1 : (k : Int) < (n : Int) := by omega
        clear ho hln hcs hcs2 hln2
        have hneq := fun w => equal_S x1 y1 x2 y2 w
        have hgd := guard_S
        by_cases hxy : (x1, x2) = (y1, y2)
        · have hsm : sameS x1 y1 x2 y2 = true := by
            injection hxy with e1 e2; subst e1 e2; unfold sameS; simp
          rw [hsm] at hneq
          have HX := Lib.hid hxy
          clear hxy hsm ht
          go_wp2_with fail
          go_quiet (fail)
          go_wp2_with fail
          go_roundw
          case rel => exact ⟨k + 1, by omega, by go_num, by rw [HS.out.1, HS.out.2, HT.out, HX.out], HO.out.trans ⟨rfl, rfl, rfl, Nat.le_refl _, fun _ _ => rfl⟩⟩
          case measure => simp [intOf]; omega
        · have hsm : sameS x1 y1 x2 y2 = false := by
            cases h : sameS x1 y1 x2 y2 with
            | false => rfl
            | true =>
              unfold sameS at h
              simp at h
              exact absurd (by rw [h.1, h.2]) hxy
          rw [hsm] at hneq
          have hno : l ≠ l2 := by
            intro e
            have h1 := HS.out.1; have h2 := HS.out.2
            rw [e] at h1
            rw [h1, ht] at h2
            have := List.append_cancel_left h2
            simp at this
            exact hxy (by rw [this.1, this.2])
          have HX := Lib.hid hno
          clear hxy hsm hno ht
          go_wp2_with fail
          go_quiet (fail)
          go_wp2_with fail
          go_ret
          exact ⟨by rw [decide_eq_false HX.out]; rfl, HO.out.trans ⟨rfl, rfl, rfl, Nat.le_refl _, fun _ _ => rfl⟩⟩
      · obtain rfl : k = n := by omega
        rw [List.take_of_length_le (by omega), List.take_of_length_le (by omega)] at ht
        have HO := Lib.hid (And.intro ho ht)
        clear ho ht hln hln2
        go_wp2_with fail
        go_ret
        exact ⟨by rw [decide_eq_true HO.out.2]; rfl, HO.out.1⟩
  · have hno : l ≠ l2 := by
      intro e; apply hnn; rw [← HL.out.len, ← HL2.out.len, e]
    have HX := Lib.hid hno
    have hni : ¬ ((n : Int) = (n2 : Int)) := by omega
    have hne2 : ((n : Int) != (n2 : Int)) = true := by simpa using hni
    clear hni
    clear hno hnn
    go_enter Try.func24, Try.ntmps24
    go_wp2_with fail
    go_ret
    exact ⟨by rw [decide_eq_false HX.out]; rfl, Below.refl _ _⟩
end Go.Proofs.Ytdacefmcnjoboaa.LabW
