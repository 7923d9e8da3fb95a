/-
  match.pick AT LABELS, MATCHERS, SAMPLES: by whatever function value tells.
-/
import Derived.Test.YtdacefmcnjoboaaLabGet
import Derived.Maps.AppendAt
namespace Go.Proofs.Ytdacefmcnjoboaa.LabW
open Go.RowKit Go.Shelf LabM
/-- A matcher: its kind, its name, its value. -/
abbrev Mat := Int × ByteArray × ByteArray
def encM (x : Mat) : List Value := [.int .i64 x.1, .string x.2.1, .string x.2.2]
def okM (x : Mat) : Prop := -9223372036854775808 ≤ x.1 ∧ x.1 ≤ 9223372036854775807 ∧ x.2.1.size ≤ maxLen ∧ x.2.2.size ≤ maxLen
/-- A sample: its time, its value. -/
abbrev Sam := Int × Int
def encS (x : Sam) : List Value := [.int .i64 x.1, .int .u64 x.2]
def okS (x : Sam) : Prop := -9223372036854775808 ≤ x.1 ∧ x.1 ≤ 9223372036854775807 ∧ 0 ≤ x.2 ∧ x.2 < 18446744073709551616
theorem take_filter {α : Type} (p : α → Bool) (l : List α) (k : Nat) (h : k < l.length) : (l.take (k + 1)).filter p = (l.take k).filter p ++ if p l[k] then [l[k]] else [] := by
  rw [take_snocL l k h, List.filter_append]
  congr 1
  cases hp : p l[k] <;> simp [hp]
theorem elemL : Elem Try.prog 49 (.agg #[.string ByteArray.empty, .string ByteArray.empty]) 2 32 := by unfold Elem; kernel_rfl
set_option maxHeartbeats 1000000 in
theorem pickL_any (G : FuncId) (lb : Array Value) (p : Lab → Bool) (hent : ∀ args w, (callFunc G args).run Try.prog w = .ok (.enter G args) w) (A : Option Addr) (n c : Nat) (l : List Lab) (w : World) (hl : Comes w 2 encL okL A n c l) (hn : n ≤ 1000000)
    (hG : ∀ x ∈ l, ∀ W, Below w.heap.size w W → Calls Try.prog G (#[.agg #[.string x.1, .string x.2]] ++ lb) W fun e W' => e = .returned (.bool (p x)) ∧ Below W.heap.size W W') :
    Calls Try.prog 34 #[.slice A n c, .func (.func G) #[] lb] w fun e w' => ∃ v, e = .returned v ∧ w'.ownsRow w.heap.size 49 2 v (l.filter p).length ((l.filter p).flatMap encL) ∧ Below w.heap.size w w' := by
  have HL := Lib.hid hl
  have HG := Lib.hid hG
  have hcap : c ≤ 9223372036854775807 := hl.cap
  have hle := hl.le
  clear hl hG
  go_enter Try.func34, Try.ntmps34
  go_wp2_with fail
  go_loopw [5, 10] (fun v5 v10 wr => ∃ k : Nat, k ≤ n ∧ v10 = .int .i64 k ∧ wr.ownsRow w.heap.size 49 2 v5 ((l.take k).filter p).length (((l.take k).filter p).flatMap encL) ∧ Below w.heap.size w wr) (fun _ v10 _ => n - (intOf v10).toNat)
  case atStart => exact ⟨0, Nat.zero_le _, rfl, World.ownsRow_nil _ _ _ _, Below.refl _ _⟩
  case round =>
    obtain ⟨k, hk, rfl, hown, ho⟩ := hrel
    have hln := HL.out.len
    by_cases hlt : k < n
    · have hkl : k < l.length := by omega
      obtain ⟨b, o, rfl, hcs⟩ := lab_cells HL.out.lies hkl
      obtain ⟨hc0, hc1⟩ := hcs _ ho
      have hpx := HG.out _ (List.getElem_mem hkl)
      have htf := take_filter p l k hkl
      have hq : ((l.take k).filter p).length ≤ k := by
        have h1 := List.length_filter_le p (l.take k)
        have h2 := List.length_take_le k l
        omega
      generalize l[k] = x at *
      obtain ⟨x1, x2⟩ := x
      simp only [] at hc0 hc1 hpx
      generalize (l.take k).filter p = F at *
      obtain ⟨q, hqq⟩ : ∃ q, F.length = q := ⟨_, rfl⟩
      rw [hqq] at hown hq
      have HO := Lib.hid ho
      have HP := Lib.hid hpx
      have HF := Lib.hid (And.intro htf hqq)
      have HW := Lib.hid hown
      have i0 : (0 : Int) ≤ (k : Int) := by omega
      have i1 : (k : Int) < (n : Int) := by omega
      clear ho hln hcs hpx htf hqq hown
      go_wp2_with fail
      refine (HP.out _ (HO.out.alloc HO.out.size _)).mono ?_
      rintro e w1 ⟨rfl, hb1⟩
      have hb2 : Below w.heap.size w w1 := (HO.out.alloc HO.out.size _).trans (hb1.mono (by have := HO.out.size; simp; omega))
      have hbox : w1.heap[wr.heap.size]? = some (.cells #[.string x1, .string x2] 49 (0, 0)) := (hb1.block _ (by simp)).trans (heap_alloc_new wr _)
      have hx0 : w1.cell? ⟨wr.heap.size, 0, none⟩ = some (.string x1) := by rw [cell_of_row w1 _ _ _ _ _ hbox]; rfl
      have hx1 : w1.cell? ⟨wr.heap.size, 1, none⟩ = some (.string x2) := by rw [cell_of_row w1 _ _ _ _ _ hbox]; rfl
      have hown1 := own_later (HW.out.alloc _) hb1
      have HO2 := Lib.hid hb2
      clear hb1 hb2 hbox hc0 hc1 HW
      by_cases hp : p ⟨x1, x2⟩ = true
      · rw [hp]
        rw [hp, if_pos rfl] at HF
        go_wp2_with (at_builtin; go_must (refine wpList_append_one rfl _ _ 28 rfl w.heap.size 49 (.agg #[.string ByteArray.empty, .string ByteArray.empty]) 2 32 Try.underlying28 elemL rfl (by decide) w1 hown1 rfl _ rfl rfl (one2 rfl rfl) (by omega) (by omega) HO2.out.size ?_); intro v' w' hown' hb' hz')
        clear hown1
        go_roundw
        case rel =>
          refine ⟨k + 1, by omega, by go_num, ?_, HO2.out.trans hb'⟩
          rw [HF.out.1, List.length_append, HF.out.2, List.flatMap_append, List.flatMap_singleton]
          exact hown'
        case measure => simp [intOf]; omega
      · have hpf : p ⟨x1, x2⟩ = false := by simpa using hp
        rw [hpf]
        rw [hpf, if_neg (by decide), List.append_nil] at HF
        clear hp
        go_wp2_with fail
        go_roundw
        case rel =>
          refine ⟨k + 1, by omega, by go_num, ?_, HO2.out⟩
          rw [HF.out.1, HF.out.2]
          exact hown1
        case measure => simp [intOf]; omega
    · obtain rfl : k = n := by omega
      rw [List.take_of_length_le (by omega)] at hown
      have HO := Lib.hid ho
      have HW := Lib.hid hown
      clear ho hown
      go_wp2_with fail
      go_ret
      exact ⟨_, rfl, HW.out, HO.out⟩
theorem M_cells {w : World} {A : Option Addr} {l : List Mat} (h : Lies w w.heap.size 3 encM A l) {k : Nat} (hk : k < l.length) :
    ∃ b o, A = some ⟨b, o, none⟩ ∧ ∀ W, Below w.heap.size w W → W.cell? ⟨b, o + k * 3, none⟩ = some (.int .i64 l[k].1) ∧ W.cell? ⟨b, o + k * 3 + 1, none⟩ = some (.string l[k].2.1) ∧ W.cell? ⟨b, o + k * 3 + 2, none⟩ = some (.string l[k].2.2) := by
  obtain ⟨b, o, hA, _, hc⟩ := h.all hk
  exact ⟨b, o, hA, fun W hW => ⟨hc W hW 0 _ rfl, hc W hW 1 _ rfl, hc W hW 2 _ rfl⟩⟩
theorem one3 {v x y : Value} (h : v.oneCell' = true) (k : x.oneCell' = true) (m : y.oneCell' = true) : ∀ u ∈ (#[v, x, y] : Array Value).toList, u.oneCell' = true := by
  intro u hu; simp at hu; rcases hu with hu | hu | hu <;> rw [hu] <;> assumption
theorem elemM : Elem Try.prog 32 (.agg #[.int .i64 0, .string ByteArray.empty, .string ByteArray.empty]) 3 40 := by unfold Elem; kernel_rfl
set_option maxHeartbeats 1000000 in
theorem pickM_any (G : FuncId) (lb : Array Value) (p : Mat → Bool) (hent : ∀ args w, (callFunc G args).run Try.prog w = .ok (.enter G args) w) (A : Option Addr) (n c : Nat) (l : List Mat) (w : World) (hl : Comes w 3 encM okM A n c l) (hn : n ≤ 1000000)
    (hG : ∀ x ∈ l, ∀ W, Below w.heap.size w W → Calls Try.prog G (#[.agg #[.int .i64 x.1, .string x.2.1, .string x.2.2]] ++ lb) W fun e W' => e = .returned (.bool (p x)) ∧ Below W.heap.size W W') :
    Calls Try.prog 30 #[.slice A n c, .func (.func G) #[] lb] w fun e w' => ∃ v, e = .returned v ∧ w'.ownsRow w.heap.size 32 3 v (l.filter p).length ((l.filter p).flatMap encM) ∧ Below w.heap.size w w' := by
  have HL := Lib.hid hl
  have HG := Lib.hid hG
  have hcap : c ≤ 9223372036854775807 := hl.cap
  have hle := hl.le
  clear hl hG
  go_enter Try.func30, Try.ntmps30
  go_wp2_with fail
  go_loopw [5, 10] (fun v5 v10 wr => ∃ k : Nat, k ≤ n ∧ v10 = .int .i64 k ∧ wr.ownsRow w.heap.size 32 3 v5 ((l.take k).filter p).length (((l.take k).filter p).flatMap encM) ∧ Below w.heap.size w wr) (fun _ v10 _ => n - (intOf v10).toNat)
  case atStart => exact ⟨0, Nat.zero_le _, rfl, World.ownsRow_nil _ _ _ _, Below.refl _ _⟩
  case round =>
    obtain ⟨k, hk, rfl, hown, ho⟩ := hrel
    have hln := HL.out.len
    by_cases hlt : k < n
    · have hkl : k < l.length := by omega
      obtain ⟨b, o, rfl, hcs⟩ := M_cells HL.out.lies hkl
      obtain ⟨hc0, hc1, hc2⟩ := hcs _ ho
      have hpx := HG.out _ (List.getElem_mem hkl)
      have htf := take_filter p l k hkl
      have hq : ((l.take k).filter p).length ≤ k := by
        have h1 := List.length_filter_le p (l.take k)
        have h2 := List.length_take_le k l
        omega
      generalize l[k] = x at *
      obtain ⟨x1, x2, x3⟩ := x
      simp only [] at hc0 hc1 hc2 hpx
      generalize (l.take k).filter p = F at *
      obtain ⟨q, hqq⟩ : ∃ q, F.length = q := ⟨_, rfl⟩
      rw [hqq] at hown hq
      have HO := Lib.hid ho
      have HP := Lib.hid hpx
      have HF := Lib.hid (And.intro htf hqq)
      have HW := Lib.hid hown
      have i0 : (0 : Int) ≤ (k : Int) := by omega
      have i1 : (k : Int) < (n : Int) := by omega
      clear ho hln hcs hpx htf hqq hown
      go_wp2_with fail
      refine (HP.out _ (HO.out.alloc HO.out.size _)).mono ?_
      rintro e w1 ⟨rfl, hb1⟩
      have hb2 : Below w.heap.size w w1 := (HO.out.alloc HO.out.size _).trans (hb1.mono (by have := HO.out.size; simp; omega))
      have hbox : w1.heap[wr.heap.size]? = some (.cells #[.int .i64 x1, .string x2, .string x3] 32 (0, 0)) := (hb1.block _ (by simp)).trans (heap_alloc_new wr _)
      have hx0 : w1.cell? ⟨wr.heap.size, 0, none⟩ = some (.int .i64 x1) := by rw [cell_of_row w1 _ _ _ _ _ hbox]; rfl
      have hx1 : w1.cell? ⟨wr.heap.size, 1, none⟩ = some (.string x2) := by rw [cell_of_row w1 _ _ _ _ _ hbox]; rfl
      have hx2 : w1.cell? ⟨wr.heap.size, 2, none⟩ = some (.string x3) := by rw [cell_of_row w1 _ _ _ _ _ hbox]; rfl
      have hown1 := own_later (HW.out.alloc _) hb1
      have HO2 := Lib.hid hb2
      clear hb1 hb2 hbox hc0 hc1 hc2 HW
      by_cases hp : p ⟨x1, x2, x3⟩ = true
      · rw [hp]
        rw [hp, if_pos rfl] at HF
        go_wp2_with (at_builtin; go_must (refine wpList_append_one rfl _ _ 22 rfl w.heap.size 32 (.agg #[.int .i64 0, .string ByteArray.empty, .string ByteArray.empty]) 3 40 Try.underlying22 elemM rfl (by decide) w1 hown1 rfl _ rfl rfl (one3 rfl rfl rfl) (by omega) (by omega) HO2.out.size ?_); intro v' w' hown' hb' hz')
        clear hown1
        go_roundw
        case rel =>
          refine ⟨k + 1, by omega, by go_num, ?_, HO2.out.trans hb'⟩
          rw [HF.out.1, List.length_append, HF.out.2, List.flatMap_append, List.flatMap_singleton]
          exact hown'
        case measure => simp [intOf]; omega
      · have hpf : p ⟨x1, x2, x3⟩ = false := by simpa using hp
        rw [hpf]
        rw [hpf, if_neg (by decide), List.append_nil] at HF
        clear hp
        go_wp2_with fail
        go_roundw
        case rel =>
          refine ⟨k + 1, by omega, by go_num, ?_, HO2.out⟩
          rw [HF.out.1, HF.out.2]
          exact hown1
        case measure => simp [intOf]; omega
    · obtain rfl : k = n := by omega
      rw [List.take_of_length_le (by omega)] at hown
      have HO := Lib.hid ho
      have HW := Lib.hid hown
      clear ho hown
      go_wp2_with fail
      go_ret
      exact ⟨_, rfl, HW.out, HO.out⟩
theorem S_cells {w : World} {A : Option Addr} {l : List Sam} (h : Lies w w.heap.size 2 encS A l) {k : Nat} (hk : k < l.length) :
    ∃ b o, A = some ⟨b, o, none⟩ ∧ ∀ W, Below w.heap.size w W → W.cell? ⟨b, o + k * 2, none⟩ = some (.int .i64 l[k].1) ∧ W.cell? ⟨b, o + k * 2 + 1, none⟩ = some (.int .u64 l[k].2) := by
  obtain ⟨b, o, hA, _, hc⟩ := h.all hk
  exact ⟨b, o, hA, fun W hW => ⟨hc W hW 0 _ rfl, hc W hW 1 _ rfl⟩⟩
theorem elemS : Elem Try.prog 52 (.agg #[.int .i64 0, .int .u64 0]) 2 16 := by unfold Elem; kernel_rfl
set_option maxHeartbeats 1000000 in
theorem pickS_any (G : FuncId) (lb : Array Value) (p : Sam → Bool) (hent : ∀ args w, (callFunc G args).run Try.prog w = .ok (.enter G args) w) (A : Option Addr) (n c : Nat) (l : List Sam) (w : World) (hl : Comes w 2 encS okS A n c l) (hn : n ≤ 1000000)
    (hG : ∀ x ∈ l, ∀ W, Below w.heap.size w W → Calls Try.prog G (#[.agg #[.int .i64 x.1, .int .u64 x.2]] ++ lb) W fun e W' => e = .returned (.bool (p x)) ∧ Below W.heap.size W W') :
    Calls Try.prog 39 #[.slice A n c, .func (.func G) #[] lb] w fun e w' => ∃ v, e = .returned v ∧ w'.ownsRow w.heap.size 52 2 v (l.filter p).length ((l.filter p).flatMap encS) ∧ Below w.heap.size w w' := by
  have HL := Lib.hid hl
  have HG := Lib.hid hG
  have hcap : c ≤ 9223372036854775807 := hl.cap
  have hle := hl.le
  clear hl hG
  go_enter Try.func39, Try.ntmps39
  go_wp2_with fail
  go_loopw [5, 10] (fun v5 v10 wr => ∃ k : Nat, k ≤ n ∧ v10 = .int .i64 k ∧ wr.ownsRow w.heap.size 52 2 v5 ((l.take k).filter p).length (((l.take k).filter p).flatMap encS) ∧ Below w.heap.size w wr) (fun _ v10 _ => n - (intOf v10).toNat)
  case atStart => exact ⟨0, Nat.zero_le _, rfl, World.ownsRow_nil _ _ _ _, Below.refl _ _⟩
  case round =>
    obtain ⟨k, hk, rfl, hown, ho⟩ := hrel
    have hln := HL.out.len
    by_cases hlt : k < n
    · have hkl : k < l.length := by omega
      obtain ⟨b, o, rfl, hcs⟩ := S_cells HL.out.lies hkl
      obtain ⟨hc0, hc1⟩ := hcs _ ho
      have hpx := HG.out _ (List.getElem_mem hkl)
      have htf := take_filter p l k hkl
      have hq : ((l.take k).filter p).length ≤ k := by
        have h1 := List.length_filter_le p (l.take k)
        have h2 := List.length_take_le k l
        omega
      generalize l[k] = x at *
      obtain ⟨x1, x2⟩ := x
      simp only [] at hc0 hc1 hpx
      generalize (l.take k).filter p = F at *
      obtain ⟨q, hqq⟩ : ∃ q, F.length = q := ⟨_, rfl⟩
      rw [hqq] at hown hq
      have HO := Lib.hid ho
      have HP := Lib.hid hpx
      have HF := Lib.hid (And.intro htf hqq)
      have HW := Lib.hid hown
      have i0 : (0 : Int) ≤ (k : Int) := by omega
      have i1 : (k : Int) < (n : Int) := by omega
      clear ho hln hcs hpx htf hqq hown
      go_wp2_with fail
      refine (HP.out _ (HO.out.alloc HO.out.size _)).mono ?_
      rintro e w1 ⟨rfl, hb1⟩
      have hb2 : Below w.heap.size w w1 := (HO.out.alloc HO.out.size _).trans (hb1.mono (by have := HO.out.size; simp; omega))
      have hbox : w1.heap[wr.heap.size]? = some (.cells #[.int .i64 x1, .int .u64 x2] 52 (0, 0)) := (hb1.block _ (by simp)).trans (heap_alloc_new wr _)
      have hx0 : w1.cell? ⟨wr.heap.size, 0, none⟩ = some (.int .i64 x1) := by rw [cell_of_row w1 _ _ _ _ _ hbox]; rfl
      have hx1 : w1.cell? ⟨wr.heap.size, 1, none⟩ = some (.int .u64 x2) := by rw [cell_of_row w1 _ _ _ _ _ hbox]; rfl
      have hown1 := own_later (HW.out.alloc _) hb1
      have HO2 := Lib.hid hb2
      clear hb1 hb2 hbox hc0 hc1 HW
      by_cases hp : p ⟨x1, x2⟩ = true
      · rw [hp]
        rw [hp, if_pos rfl] at HF
        go_wp2_with (at_builtin; go_must (refine wpList_append_one rfl _ _ 38 rfl w.heap.size 52 (.agg #[.int .i64 0, .int .u64 0]) 2 16 Try.underlying38 elemS rfl (by decide) w1 hown1 rfl _ rfl rfl (one2 rfl rfl) (by omega) (by omega) HO2.out.size ?_); intro v' w' hown' hb' hz')
        clear hown1
        go_roundw
        case rel =>
          refine ⟨k + 1, by omega, by go_num, ?_, HO2.out.trans hb'⟩
          rw [HF.out.1, List.length_append, HF.out.2, List.flatMap_append, List.flatMap_singleton]
          exact hown'
        case measure => simp [intOf]; omega
      · have hpf : p ⟨x1, x2⟩ = false := by simpa using hp
        rw [hpf]
        rw [hpf, if_neg (by decide), List.append_nil] at HF
        clear hp
        go_wp2_with fail
        go_roundw
        case rel =>
          refine ⟨k + 1, by omega, by go_num, ?_, HO2.out⟩
          rw [HF.out.1, HF.out.2]
          exact hown1
        case measure => simp [intOf]; omega
    · obtain rfl : k = n := by omega
      rw [List.take_of_length_le (by omega)] at hown
      have HO := Lib.hid ho
      have HW := Lib.hid hown
      clear ho hown
      go_wp2_with fail
      go_ret
      exact ⟨_, rfl, HW.out, HO.out⟩
end Go.Proofs.Ytdacefmcnjoboaa.LabW
