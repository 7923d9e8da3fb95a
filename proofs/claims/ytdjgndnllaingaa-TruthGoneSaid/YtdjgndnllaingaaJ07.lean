/-
  match.pick AT LABELS, MATCHERS, SAMPLES: by whatever function value tells.
  strings.HasPrefix, match.Fits: THE WALKS.
-/
import Derived.Test.YtdjgndnllaingaaJ05
import Derived.Maps.AppendAt
import Derived.WalkSpells
import Derived.WalkLawsBesides
/-
  match.pick AT LABELS, MATCHERS, SAMPLES: by whatever function value tells.
-/
namespace Go.Proofs.Ytdjgndnllaingaa.LabW
open Go.RowKit Go.Shelf LabM
/-- A matcher: its kind, its name, its value. -/
abbrev Mat := Int × ByteArray × ByteArray
def encM (x : Mat) : List Value := [.int .i64 x.1, .string x.2.1, .string x.2.2]
def okM (x : Mat) : Prop := -9223372036854775808 ≤ x.1 ∧ x.1 ≤ 9223372036854775807 ∧ x.2.1.size ≤ maxLen ∧ x.2.2.size ≤ maxLen
/-- A sample: its time, its value. -/
abbrev Sam := Int × Int
def encS (x : Sam) : List Value := [.int .i64 x.1, .int .u64 x.2]
def okS (x : Sam) : Prop := -9223372036854775808 ≤ x.1 ∧ x.1 ≤ 9223372036854775807 ∧ 0 ≤ x.2 ∧ x.2 < 18446744073709551616
theorem take_filter {α : Type} (p : α → Bool) (l : List α) (k : Nat) (h : k < l.length) : (l.take (k + 1)).filter p = (l.take k).filter p ++ if p l[k] then [l[k]] else [] := by
  rw [take_snocL l k h, List.filter_append]
  congr 1
  cases hp : p l[k] <;> simp [hp]
theorem elemL : Elem Try.prog 60 (.agg #[.string ByteArray.empty, .string ByteArray.empty]) 2 32 := by unfold Elem; kernel_rfl
set_option maxHeartbeats 1000000 in
theorem pickL_any (G : FuncId) (lb : Array Value) (p : Lab → Bool) (hent : ∀ args w, (callFunc G args).run Try.prog w = .ok (.enter G args) w) (A : Option Addr) (n c : Nat) (l : List Lab) (w : World) (hl : Comes w 2 encL okL A n c l) (hn : n ≤ 1000000)
    (hG : ∀ x ∈ l, ∀ W, Below w.heap.size w W → Calls Try.prog G (#[.agg #[.string x.1, .string x.2]] ++ lb) W fun e W' => e = .returned (.bool (p x)) ∧ Below W.heap.size W W') :
    Calls Try.prog 75 #[.slice A n c, .func (.func G) #[] lb] w fun e w' => ∃ v, e = .returned v ∧ w'.ownsRow w.heap.size 60 2 v (l.filter p).length ((l.filter p).flatMap encL) ∧ Below w.heap.size w w' := by
  have HL := Lib.hid hl
  have HG := Lib.hid hG
  have hcap : c ≤ 9223372036854775807 := hl.cap
  have hle := hl.le
  clear hl hG
  go_enter Try.func75, Try.ntmps75
  go_wp2_with fail
  go_loopw [5, 10] (fun v5 v10 wr => ∃ k : Nat, k ≤ n ∧ v10 = .int .i64 k ∧ wr.ownsRow w.heap.size 60 2 v5 ((l.take k).filter p).length (((l.take k).filter p).flatMap encL) ∧ Below w.heap.size w wr) (fun _ v10 _ => n - (intOf v10).toNat)
  case atStart => exact ⟨0, Nat.zero_le _, rfl, World.ownsRow_nil _ _ _ _, Below.refl _ _⟩
  case round =>
    obtain ⟨k, hk, rfl, hown, ho⟩ := hrel
    have hln := HL.out.len
    by_cases hlt : k < n
    · have hkl : k < l.length := by omega
      obtain ⟨b, o, rfl, hcs⟩ := lab_cells HL.out.lies hkl
      obtain ⟨hc0, hc1⟩ := hcs _ ho
      have hpx := HG.out _ (List.getElem_mem hkl)
      have htf := take_filter p l k hkl
      have hq : ((l.take k).filter p).length ≤ k := by
        have h1 := List.length_filter_le p (l.take k)
        have h2 := List.length_take_le k l
        omega
      generalize l[k] = x at *
      obtain ⟨x1, x2⟩ := x
      simp only [] at hc0 hc1 hpx
      generalize (l.take k).filter p = F at *
      obtain ⟨q, hqq⟩ : ∃ q, F.length = q := ⟨_, rfl⟩
      rw [hqq] at hown hq
      have HO := Lib.hid ho
      have HP := Lib.hid hpx
      have HF := Lib.hid (And.intro htf hqq)
      have HW := Lib.hid hown
      have i0 : (0 : Int) ≤ (k : Int) := by omega
      have i1 : (k : Int) < (n : Int) := by omega
      clear ho hln hcs hpx htf hqq hown
      go_wp2_with fail
      refine (HP.out _ (HO.out.alloc HO.out.size _)).mono ?_
      rintro e w1 ⟨rfl, hb1⟩
      have hb2 : Below w.heap.size w w1 := (HO.out.alloc HO.out.size _).trans (hb1.mono (by have := HO.out.size; simp; omega))
      have hbox : w1.heap[wr.heap.size]? = some (.cells #[.string x1, .string x2] 60 (0, 0)) := (hb1.block _ (by simp)).trans (heap_alloc_new wr _)
      have hx0 : w1.cell? ⟨wr.heap.size, 0, none⟩ = some (.string x1) := by rw [cell_of_row w1 _ _ _ _ _ hbox]; rfl
      have hx1 : w1.cell? ⟨wr.heap.size, 1, none⟩ = some (.string x2) := by rw [cell_of_row w1 _ _ _ _ _ hbox]; rfl
      have hown1 := own_later (HW.out.alloc _) hb1
      have HO2 := Lib.hid hb2
      clear hb1 hb2 hbox hc0 hc1 HW
      by_cases hp : p ⟨x1, x2⟩ = true
      · rw [hp]
        rw [hp, if_pos rfl] at HF
        go_wp2_with (at_builtin; go_must (refine wpList_append_one rfl _ _ 35 rfl w.heap.size 60 (.agg #[.string ByteArray.empty, .string ByteArray.empty]) 2 32 Try.underlying35 elemL rfl (by decide) w1 hown1 rfl _ rfl rfl (one2 rfl rfl) (by omega) (by omega) HO2.out.size ?_); intro v' w' hown' hb' hz')
        clear hown1
        go_roundw
        case rel =>
          refine ⟨k + 1, by omega, by go_num, ?_, HO2.out.trans hb'⟩
          rw [HF.out.1, List.length_append, HF.out.2, List.flatMap_append, List.flatMap_singleton]
          exact hown'
        case measure => simp [intOf]; omega
      · have hpf : p ⟨x1, x2⟩ = false := by simpa using hp
        rw [hpf]
        rw [hpf, if_neg (by decide), List.append_nil] at HF
        clear hp
        go_wp2_with fail
        go_roundw
        case rel =>
          refine ⟨k + 1, by omega, by go_num, ?_, HO2.out⟩
          rw [HF.out.1, HF.out.2]
          exact hown1
        case measure => simp [intOf]; omega
    · obtain rfl : k = n := by omega
      rw [List.take_of_length_le (by omega)] at hown
      have HO := Lib.hid ho
      have HW := Lib.hid hown
      clear ho hown
      go_wp2_with fail
      go_ret
      exact ⟨_, rfl, HW.out, HO.out⟩
theorem M_cells {w : World} {A : Option Addr} {l : List Mat} (h : Lies w w.heap.size 3 encM A l) {k : Nat} (hk : k < l.length) :
    ∃ b o, A = some ⟨b, o, none⟩ ∧ ∀ W, Below w.heap.size w W → W.cell? ⟨b, o + k * 3, none⟩ = some (.int .i64 l[k].1) ∧ W.cell? ⟨b, o + k * 3 + 1, none⟩ = some (.string l[k].2.1) ∧ W.cell? ⟨b, o + k * 3 + 2, none⟩ = some (.string l[k].2.2) := by
  obtain ⟨b, o, hA, _, hc⟩ := h.all hk
  exact ⟨b, o, hA, fun W hW => ⟨hc W hW 0 _ rfl, hc W hW 1 _ rfl, hc W hW 2 _ rfl⟩⟩
theorem one3 {v x y : Value} (h : v.oneCell' = true) (k : x.oneCell' = true) (m : y.oneCell' = true) : ∀ u ∈ (#[v, x, y] : Array Value).toList, u.oneCell' = true := by
  intro u hu; simp at hu; rcases hu with hu | hu | hu <;> rw [hu] <;> assumption
theorem elemM : Elem Try.prog 80 (.agg #[.int .i64 0, .string ByteArray.empty, .string ByteArray.empty]) 3 40 := by unfold Elem; kernel_rfl
set_option maxHeartbeats 1000000 in
theorem pickM_any (G : FuncId) (lb : Array Value) (p : Mat → Bool) (hent : ∀ args w, (callFunc G args).run Try.prog w = .ok (.enter G args) w) (A : Option Addr) (n c : Nat) (l : List Mat) (w : World) (hl : Comes w 3 encM okM A n c l) (hn : n ≤ 1000000)
    (hG : ∀ x ∈ l, ∀ W, Below w.heap.size w W → Calls Try.prog G (#[.agg #[.int .i64 x.1, .string x.2.1, .string x.2.2]] ++ lb) W fun e W' => e = .returned (.bool (p x)) ∧ Below W.heap.size W W') :
    Calls Try.prog 61 #[.slice A n c, .func (.func G) #[] lb] w fun e w' => ∃ v, e = .returned v ∧ w'.ownsRow w.heap.size 80 3 v (l.filter p).length ((l.filter p).flatMap encM) ∧ Below w.heap.size w w' := by
  have HL := Lib.hid hl
  have HG := Lib.hid hG
  have hcap : c ≤ 9223372036854775807 := hl.cap
  have hle := hl.le
  clear hl hG
  go_enter Try.func61, Try.ntmps61
  go_wp2_with fail
  go_loopw [5, 10] (fun v5 v10 wr => ∃ k : Nat, k ≤ n ∧ v10 = .int .i64 k ∧ wr.ownsRow w.heap.size 80 3 v5 ((l.take k).filter p).length (((l.take k).filter p).flatMap encM) ∧ Below w.heap.size w wr) (fun _ v10 _ => n - (intOf v10).toNat)
  case atStart => exact ⟨0, Nat.zero_le _, rfl, World.ownsRow_nil _ _ _ _, Below.refl _ _⟩
  case round =>
    obtain ⟨k, hk, rfl, hown, ho⟩ := hrel
    have hln := HL.out.len
    by_cases hlt : k < n
    · have hkl : k < l.length := by omega
      obtain ⟨b, o, rfl, hcs⟩ := M_cells HL.out.lies hkl
      obtain ⟨hc0, hc1, hc2⟩ := hcs _ ho
      have hpx := HG.out _ (List.getElem_mem hkl)
      have htf := take_filter p l k hkl
      have hq : ((l.take k).filter p).length ≤ k := by
        have h1 := List.length_filter_le p (l.take k)
        have h2 := List.length_take_le k l
        omega
      generalize l[k] = x at *
      obtain ⟨x1, x2, x3⟩ := x
      simp only [] at hc0 hc1 hc2 hpx
      generalize (l.take k).filter p = F at *
      obtain ⟨q, hqq⟩ : ∃ q, F.length = q := ⟨_, rfl⟩
      rw [hqq] at hown hq
      have HO := Lib.hid ho
      have HP := Lib.hid hpx
      have HF := Lib.hid (And.intro htf hqq)
      have HW := Lib.hid hown
      have i0 : (0 : Int) ≤ (k : Int) := by omega
      have i1 : (k : Int) < (n : Int) := by omega
      clear ho hln hcs hpx htf hqq hown
      go_wp2_with fail
      refine (HP.out _ (HO.out.alloc HO.out.size _)).mono ?_
      rintro e w1 ⟨rfl, hb1⟩
      have hb2 : Below w.heap.size w w1 := (HO.out.alloc HO.out.size _).trans (hb1.mono (by have := HO.out.size; simp; omega))
      have hbox : w1.heap[wr.heap.size]? = some (.cells #[.int .i64 x1, .string x2, .string x3] 80 (0, 0)) := (hb1.block _ (by simp)).trans (heap_alloc_new wr _)
      have hx0 : w1.cell? ⟨wr.heap.size, 0, none⟩ = some (.int .i64 x1) := by rw [cell_of_row w1 _ _ _ _ _ hbox]; rfl
      have hx1 : w1.cell? ⟨wr.heap.size, 1, none⟩ = some (.string x2) := by rw [cell_of_row w1 _ _ _ _ _ hbox]; rfl
      have hx2 : w1.cell? ⟨wr.heap.size, 2, none⟩ = some (.string x3) := by rw [cell_of_row w1 _ _ _ _ _ hbox]; rfl
      have hown1 := own_later (HW.out.alloc _) hb1
      have HO2 := Lib.hid hb2
      clear hb1 hb2 hbox hc0 hc1 hc2 HW
      by_cases hp : p ⟨x1, x2, x3⟩ = true
      · rw [hp]
        rw [hp, if_pos rfl] at HF
        go_wp2_with (at_builtin; go_must (refine wpList_append_one rfl _ _ 36 rfl w.heap.size 80 (.agg #[.int .i64 0, .string ByteArray.empty, .string ByteArray.empty]) 3 40 Try.underlying36 elemM rfl (by decide) w1 hown1 rfl _ rfl rfl (one3 rfl rfl rfl) (by omega) (by omega) HO2.out.size ?_); intro v' w' hown' hb' hz')
        clear hown1
        go_roundw
        case rel =>
          refine ⟨k + 1, by omega, by go_num, ?_, HO2.out.trans hb'⟩
          rw [HF.out.1, List.length_append, HF.out.2, List.flatMap_append, List.flatMap_singleton]
          exact hown'
        case measure => simp [intOf]; omega
      · have hpf : p ⟨x1, x2, x3⟩ = false := by simpa using hp
        rw [hpf]
        rw [hpf, if_neg (by decide), List.append_nil] at HF
        clear hp
        go_wp2_with fail
        go_roundw
        case rel =>
          refine ⟨k + 1, by omega, by go_num, ?_, HO2.out⟩
          rw [HF.out.1, HF.out.2]
          exact hown1
        case measure => simp [intOf]; omega
    · obtain rfl : k = n := by omega
      rw [List.take_of_length_le (by omega)] at hown
      have HO := Lib.hid ho
      have HW := Lib.hid hown
      clear ho hown
      go_wp2_with fail
      go_ret
      exact ⟨_, rfl, HW.out, HO.out⟩
theorem S_cells {w : World} {A : Option Addr} {l : List Sam} (h : Lies w w.heap.size 2 encS A l) {k : Nat} (hk : k < l.length) :
    ∃ b o, A = some ⟨b, o, none⟩ ∧ ∀ W, Below w.heap.size w W → W.cell? ⟨b, o + k * 2, none⟩ = some (.int .i64 l[k].1) ∧ W.cell? ⟨b, o + k * 2 + 1, none⟩ = some (.int .u64 l[k].2) := by
  obtain ⟨b, o, hA, _, hc⟩ := h.all hk
  exact ⟨b, o, hA, fun W hW => ⟨hc W hW 0 _ rfl, hc W hW 1 _ rfl⟩⟩
theorem elemS : Elem Try.prog 51 (.agg #[.int .i64 0, .int .u64 0]) 2 16 := by unfold Elem; kernel_rfl
set_option maxHeartbeats 1000000 in
theorem pickS_any (G : FuncId) (lb : Array Value) (p : Sam → Bool) (hent : ∀ args w, (callFunc G args).run Try.prog w = .ok (.enter G args) w) (A : Option Addr) (n c : Nat) (l : List Sam) (w : World) (hl : Comes w 2 encS okS A n c l) (hn : n ≤ 1000000)
    (hG : ∀ x ∈ l, ∀ W, Below w.heap.size w W → Calls Try.prog G (#[.agg #[.int .i64 x.1, .int .u64 x.2]] ++ lb) W fun e W' => e = .returned (.bool (p x)) ∧ Below W.heap.size W W') :
    Calls Try.prog 58 #[.slice A n c, .func (.func G) #[] lb] w fun e w' => ∃ v, e = .returned v ∧ w'.ownsRow w.heap.size 51 2 v (l.filter p).length ((l.filter p).flatMap encS) ∧ Below w.heap.size w w' := by
  have HL := Lib.hid hl
  have HG := Lib.hid hG
  have hcap : c ≤ 9223372036854775807 := hl.cap
  have hle := hl.le
  clear hl hG
  go_enter Try.func58, Try.ntmps58
  go_wp2_with fail
  go_loopw [5, 10] (fun v5 v10 wr => ∃ k : Nat, k ≤ n ∧ v10 = .int .i64 k ∧ wr.ownsRow w.heap.size 51 2 v5 ((l.take k).filter p).length (((l.take k).filter p).flatMap encS) ∧ Below w.heap.size w wr) (fun _ v10 _ => n - (intOf v10).toNat)
  case atStart => exact ⟨0, Nat.zero_le _, rfl, World.ownsRow_nil _ _ _ _, Below.refl _ _⟩
  case round =>
    obtain ⟨k, hk, rfl, hown, ho⟩ := hrel
    have hln := HL.out.len
    by_cases hlt : k < n
    · have hkl : k < l.length := by omega
      obtain ⟨b, o, rfl, hcs⟩ := S_cells HL.out.lies hkl
      obtain ⟨hc0, hc1⟩ := hcs _ ho
      have hpx := HG.out _ (List.getElem_mem hkl)
      have htf := take_filter p l k hkl
      have hq : ((l.take k).filter p).length ≤ k := by
        have h1 := List.length_filter_le p (l.take k)
        have h2 := List.length_take_le k l
        omega
      generalize l[k] = x at *
      obtain ⟨x1, x2⟩ := x
      simp only [] at hc0 hc1 hpx
      generalize (l.take k).filter p = F at *
      obtain ⟨q, hqq⟩ : ∃ q, F.length = q := ⟨_, rfl⟩
      rw [hqq] at hown hq
      have HO := Lib.hid ho
      have HP := Lib.hid hpx
      have HF := Lib.hid (And.intro htf hqq)
      have HW := Lib.hid hown
      have i0 : (0 : Int) ≤ (k : Int) := by omega
      have i1 : (k : Int) < (n : Int) := by omega
      clear ho hln hcs hpx htf hqq hown
      go_wp2_with fail
      refine (HP.out _ (HO.out.alloc HO.out.size _)).mono ?_
      rintro e w1 ⟨rfl, hb1⟩
      have hb2 : Below w.heap.size w w1 := (HO.out.alloc HO.out.size _).trans (hb1.mono (by have := HO.out.size; simp; omega))
      have hbox : w1.heap[wr.heap.size]? = some (.cells #[.int .i64 x1, .int .u64 x2] 51 (0, 0)) := (hb1.block _ (by simp)).trans (heap_alloc_new wr _)
      have hx0 : w1.cell? ⟨wr.heap.size, 0, none⟩ = some (.int .i64 x1) := by rw [cell_of_row w1 _ _ _ _ _ hbox]; rfl
      have hx1 : w1.cell? ⟨wr.heap.size, 1, none⟩ = some (.int .u64 x2) := by rw [cell_of_row w1 _ _ _ _ _ hbox]; rfl
      have hown1 := own_later (HW.out.alloc _) hb1
      have HO2 := Lib.hid hb2
      clear hb1 hb2 hbox hc0 hc1 HW
      by_cases hp : p ⟨x1, x2⟩ = true
      · rw [hp]
        rw [hp, if_pos rfl] at HF
        go_wp2_with (at_builtin; go_must (refine wpList_append_one rfl _ _ 46 rfl w.heap.size 51 (.agg #[.int .i64 0, .int .u64 0]) 2 16 Try.underlying46 elemS rfl (by decide) w1 hown1 rfl _ rfl rfl (one2 rfl rfl) (by omega) (by omega) HO2.out.size ?_); intro v' w' hown' hb' hz')
        clear hown1
        go_roundw
        case rel =>
          refine ⟨k + 1, by omega, by go_num, ?_, HO2.out.trans hb'⟩
          rw [HF.out.1, List.length_append, HF.out.2, List.flatMap_append, List.flatMap_singleton]
          exact hown'
        case measure => simp [intOf]; omega
      · have hpf : p ⟨x1, x2⟩ = false := by simpa using hp
        rw [hpf]
        rw [hpf, if_neg (by decide), List.append_nil] at HF
        clear hp
        go_wp2_with fail
        go_roundw
        case rel =>
          refine ⟨k + 1, by omega, by go_num, ?_, HO2.out⟩
          rw [HF.out.1, HF.out.2]
          exact hown1
        case measure => simp [intOf]; omega
    · obtain rfl : k = n := by omega
      rw [List.take_of_length_le (by omega)] at hown
      have HO := Lib.hid ho
      have HW := Lib.hid hown
      clear ho hown
      go_wp2_with fail
      go_ret
      exact ⟨_, rfl, HW.out, HO.out⟩
end Go.Proofs.Ytdjgndnllaingaa.LabW
/-
  strings.HasPrefix, match.Fits: THE WALKS.
-/
namespace Go.Proofs.Ytdjgndnllaingaa.LabW
open Go.RowKit Go.Shelf LabM
/-- Does it begin with it? -/
def prefB (v p : ByteArray) : Bool := decide (p.size ≤ v.size) && ((v.extract 0 p.size).toList == p.toList)
def thereB (l : List Lab) (nm : ByteArray) : Bool := l.any fun x => x.1.toList == nm.toList
/-- Does a matcher fit labels? -/
def fitsB (m : Mat) (l : List Lab) : Bool :=
  if m.1 = 0 then (getL l m.2.1).toList == m.2.2.toList
  else if m.1 = 1 then (getL l m.2.1).toList != m.2.2.toList
  else if m.1 = 2 then prefB (getL l m.2.1) m.2.2
  else if m.1 = 3 then thereB l m.2.1
  else false
theorem fitsB_0 (nm vl : ByteArray) (l : List Lab) : fitsB (0, nm, vl) l = ((getL l nm).toList == vl.toList) := rfl
theorem fitsB_1 (nm vl : ByteArray) (l : List Lab) : fitsB (1, nm, vl) l = !((getL l nm).toList == vl.toList) := rfl
theorem fitsB_2 (nm vl : ByteArray) (l : List Lab) : fitsB (2, nm, vl) l = prefB (getL l nm) vl := rfl
theorem fitsB_3 (nm vl : ByteArray) (l : List Lab) : fitsB (3, nm, vl) l = thereB l nm := rfl
theorem fitsB_no (kd : Int) (nm vl : ByteArray) (l : List Lab) (h0 : ¬ kd = 0) (h1 : ¬ kd = 1) (h2 : ¬ kd = 2) (h3 : ¬ kd = 3) : fitsB (kd, nm, vl) l = false := by
  unfold fitsB
  simp only [if_neg h0, if_neg h1, if_neg h2, if_neg h3]
theorem hasPrefix2_any (v p : ByteArray) (w : World) (hv : v.size ≤ maxLen) (hp : p.size ≤ maxLen) :
    Calls Try.prog 81 #[.string v, .string p] w fun e w' => e = .returned (.bool (prefB v p)) ∧ w = w' := by
  have hv' : v.size ≤ 9223372036854775807 := hv
  have hp' : p.size ≤ 9223372036854775807 := hp
  clear hv hp
  unfold prefB
  by_cases h : p.size ≤ v.size
  · have hsl := slice_to (P := Try.prog) Try.underlying9 v (p.size : Int) p.size rfl h
    have hd : decide (p.size ≤ v.size) = true := by simpa using h
    have hc : (p.size : Int) ≤ (v.size : Int) := by omega
    generalize v.extract 0 p.size = x at *
    have HD := Lib.hid hd
    clear hd h
    go_enter Try.func81, Try.ntmps81
    go_wp2_with fail
    go_ret
    exact ⟨by rw [HD.out]; rfl, rfl⟩
  · have hd : decide (p.size ≤ v.size) = false := by simpa using h
    have hc : ¬ (p.size : Int) ≤ (v.size : Int) := by omega
    have HD := Lib.hid hd
    clear hd h
    go_enter Try.func81, Try.ntmps81
    go_wp2_with fail
    go_ret
    exact ⟨by rw [HD.out]; rfl, rfl⟩
theorem hasPrefix_any (v p : ByteArray) (w : World) (hv : v.size ≤ maxLen) (hp : p.size ≤ maxLen) :
    Calls Try.prog 74 #[.string v, .string p] w fun e w' => e = .returned (.bool (prefB v p)) ∧ w = w' := by
  have hc := hasPrefix2_any v p w hv hp
  clear hv hp
  go_enter Try.func74, Try.ntmps74
  go_wp2_with (go_at_call 81; refine hc.mono ?_; rintro e w' ⟨rfl, rfl⟩)
  go_ret
  exact ⟨rfl, rfl⟩
theorem fits1_any (x : Lab) (bm : Nat) (nm : ByteArray) (W : World) (hc : W.cell? ⟨bm, 1, none⟩ = some (.string nm)) :
    Calls Try.prog 76 (#[.agg #[.string x.1, .string x.2]] ++ #[.pointer (some ⟨bm, 0, none⟩)]) W fun e W' => e = .returned (.bool (x.1.toList == nm.toList)) ∧ Below W.heap.size W W' := by
  obtain ⟨x1, x2⟩ := x
  have hb : bm < W.heap.size := World.block_lt_of_cell? W _ hc
  show Calls Try.prog 76 #[.agg #[.string x1, .string x2], .pointer (some ⟨bm, 0, none⟩)] W _
  go_enter Try.func76, Try.ntmps76
  go_wp2_with fail
  go_ret
  exact ⟨rfl, (Below.refl _ _).alloc (Nat.le_refl _) _⟩
theorem len_filter_pos {α : Type} (p : α → Bool) (l : List α) : decide (0 < (l.filter p).length) = l.any p := by
  induction l with
  | nil => rfl
  | cons x l ih =>
    by_cases h : p x = true
    · simp [h]
    · have h' : p x = false := by simpa using h
      simp only [List.filter_cons, h', List.any_cons, Bool.false_or]
      exact ih
theorem getL_size (l : List Lab) (nm : ByteArray) (h : ∀ x ∈ l, okL x) : (getL l nm).size ≤ maxLen := by
  induction l with
  | nil => exact Nat.zero_le _
  | cons x l ih =>
    unfold getL
    split
    · exact (h x (by simp)).2
    · exact ih (fun y hy => h y (by simp [hy]))
set_option maxHeartbeats 2000000 in
theorem fits_any (m : Mat) (hm : okM m) (A : Option Addr) (n c : Nat) (l : List Lab) (w : World) (hl : Comes w 2 encL okL A n c l) (hn : n ≤ 1000000) :
    Calls Try.prog 63 #[.agg #[.int .i64 m.1, .string m.2.1, .string m.2.2], .slice A n c] w fun e w' => e = .returned (.bool (fitsB m l)) ∧ Below w.heap.size w w' := by
  obtain ⟨kd, nm, vl⟩ := m
  obtain ⟨-, -, hnm, hvl⟩ := hm
  simp only [] at hnm hvl ⊢
  have hgs := getL_size l nm hl.ok
  have HL := Lib.hid hl
  have HS := Lib.hid (And.intro hnm (And.intro hvl hgs))
  clear hl hnm hvl hgs
  go_enter Try.func63, Try.ntmps63
  go_wp2_with fail
  refine (get_any A n c l nm _ (HL.out.later ((Below.refl _ _).alloc (Nat.le_refl _) _))).mono ?_
  rintro e w1 ⟨rfl, hb1⟩
  have hb2 : Below w.heap.size w w1 := ((Below.refl _ _).alloc (Nat.le_refl _) _).trans (hb1.mono (by simp))
  have hbox : w1.heap[w.heap.size]? = some (.cells #[.int .i64 kd, .string nm, .string vl] 80 (0, 0)) := (hb1.block _ (by simp)).trans (heap_alloc_new w _)
  have hx0 : w1.cell? ⟨w.heap.size, 0, none⟩ = some (.int .i64 kd) := by rw [cell_of_row w1 _ _ _ _ _ hbox]; rfl
  have hx1 : w1.cell? ⟨w.heap.size, 1, none⟩ = some (.string nm) := by rw [cell_of_row w1 _ _ _ _ _ hbox]; rfl
  have hx2 : w1.cell? ⟨w.heap.size, 2, none⟩ = some (.string vl) := by rw [cell_of_row w1 _ _ _ _ _ hbox]; rfl
  have HB := Lib.hid hb2
  have HX := Lib.hid hx1
  clear hb1 hb2 hbox
  obtain ⟨V, hV⟩ : ∃ V, getL l nm = V := ⟨_, rfl⟩
  rw [hV]
  rw [hV] at HS
  have HV := Lib.hid hV
  clear hV
  by_cases k0 : kd = 0
  · subst k0
    go_wp2_with fail
    go_ret
    exact ⟨by rw [fitsB_0, HV.out]; rfl, HB.out⟩
  · have e0 : (kd == 0) = false := by simpa using k0
    by_cases k1 : kd = 1
    · subst k1
      clear k0 e0
      go_wp2_with fail
      go_ret
      exact ⟨by rw [fitsB_1, HV.out]; rfl, HB.out⟩
    · have e1 : (kd == 1) = false := by simpa using k1
      by_cases k2 : kd = 2
      · subst k2
        clear k0 e0 k1 e1
        go_wp2_with fail
        refine (hasPrefix_any V vl _ HS.out.2.2 HS.out.2.1).mono ?_
        rintro e w' ⟨rfl, rfl⟩
        go_wp2_with fail
        go_ret
        exact ⟨by rw [fitsB_2, HV.out]; rfl, HB.out⟩
      · have e2 : (kd == 2) = false := by simpa using k2
        by_cases k3 : kd = 3
        · subst k3
          clear k0 e0 k1 e1 k2 e2
          go_wp2_with fail
          refine (pickL_any 76 #[.pointer (some ⟨w.heap.size, 0, none⟩)] (fun x => x.1.toList == nm.toList) (enters_of Try.func76 (by kernel_rfl) rfl) A n c l _ (HL.out.later HB.out) hn
            (fun x hx W hW => fits1_any x w.heap.size nm W (by rw [← HX.out]; exact hW.cell (p := ⟨w.heap.size, 1, none⟩) (World.block_lt_of_cell? w1 _ HX.out)))).mono ?_
          rintro e w2 ⟨v, rfl, hown, hb2⟩
          obtain ⟨A2, c2, rfl, -, -⟩ := Comes.of_own (okA := fun _ => True) hown (fun _ => rfl) (by decide) (fun _ _ => trivial)
          have hpos := len_filter_pos (fun x : Lab => x.1.toList == nm.toList) l
          generalize (l.filter fun x => x.1.toList == nm.toList).length = q at *
          have HB2 := Lib.hid (later HB.out hb2)
          have HPO := Lib.hid hpos
          clear hown hb2 hpos
          go_wp2_with fail
          go_ret
          refine ⟨?_, HB2.out⟩
          rw [fitsB_3, thereB, ← HPO.out]
          simp
        · have e3 : (kd == 3) = false := by simpa using k3
          go_wp2_with fail
          go_ret
          exact ⟨by rw [fitsB_no kd nm vl l k0 k1 k2 k3]; rfl, HB.out⟩
end Go.Proofs.Ytdjgndnllaingaa.LabW
