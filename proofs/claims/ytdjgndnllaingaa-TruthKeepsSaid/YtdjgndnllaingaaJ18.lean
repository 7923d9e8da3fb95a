/-
  slices.Clone AT SERIES AND SAMPLES; slices.Index, Contains, Equal AT SAMPLES.
  truth.timely, Find, Fits, count: THE WALKS.
-/
import Derived.Test.YtdjgndnllaingaaJ17
import Derived.Lib.SliceRun
import Derived.Test.YtdjgndnllaingaaJ12
/-
  slices.Clone AT SERIES AND SAMPLES; slices.Index, Contains, Equal AT SAMPLES.
-/
namespace Go.Proofs.Ytdjgndnllaingaa.TrW
set_option linter.unusedVariables false
open Go.RowKit Go.Shelf LabM LbM LabW FrW TrM
theorem encS_one (x : Sam) : ∀ u ∈ encS x, u.oneCell' = true := by
  intro u hu
  simp [encS] at hu
  rcases hu with rfl | rfl <;> rfl
set_option maxRecDepth 20000 in
set_option maxHeartbeats 1000000 in
theorem cloneR_any (A : Option Addr) (n c : Nat) (l : List SerH) {okA : SerH → Prop} (w : World) (hl : Comes w 3 encR okA A n c l) (hn : n ≤ 1000000) :
    Calls Try.prog 38 #[.slice A n c] w fun e w' => ∃ v, e = .returned v ∧ w'.ownsRow w.heap.size 48 3 v n (l.flatMap encR) ∧ Below w.heap.size w w' := by
  have q : ∀ (w : World) (a : Option Addr) (n c n' c' : Nat), (binOp .eql 26 (.slice a n c) (.slice none n' c')).run Try.prog w = .ok (.bool a.isNone) w := fun w a n c n' c' => Lib.run_eql_slice_nil w _ _ a n c n' c' Try.underlying26
  have HL := Lib.hid hl
  have hcap : c ≤ 9223372036854775807 := hl.cap
  have hle := hl.le
  cases A with
  | none =>
    have hl0 : l = [] := by
      cases l with
      | nil => rfl
      | cons y l => obtain ⟨b, o, hA, _⟩ := hl.lies 0 y rfl; cases hA
    subst hl0
    have hm : n = 0 := hl.len.symm
    subst hm
    clear hl HL
    go_enter Try.func38, Try.ntmps38
    go_wp2_with fail
    go_ret
    exact ⟨_, rfl, World.ownsRow_nil _ _ _ _, Below.refl _ _⟩
  | some a =>
    clear hl
    go_enter Try.func38, Try.ntmps38
    go_wp2_with (at_builtin; (refine wpList_append_comes rfl _ _ 26 rfl w.heap.size 48 (.agg #[.slice none 0 0, .slice none 0 0, .int .i64 0]) 3 56 Try.underlying26 elemR rfl (by decide) _ (World.ownsRow_made w #[] 0 (Nat.le_refl _) (Nat.zero_le _) rfl) rfl rfl (HL.out.later ((Below.refl _ _).alloc (Nat.le_refl _) _)) (fun _ => rfl) encR_one (by omega) (by omega) (by simp) ?_)
                 intro v' w' hown' hb'
                 have HO := Lib.hid (And.intro hown' (((Below.refl w.heap.size w).alloc (Nat.le_refl _) _).trans hb'))
                 clear hown' hb')
    go_ret
    exact ⟨_, rfl, by have := HO.out.1; rw [Nat.zero_add, List.nil_append] at this; exact this, HO.out.2⟩
set_option maxRecDepth 20000 in
set_option maxHeartbeats 1000000 in
theorem cloneS_any (A : Option Addr) (n c : Nat) (l : List Sam) {okA : Sam → Prop} (w : World) (hl : Comes w 2 encS okA A n c l) (hn : n ≤ 1000000) :
    Calls Try.prog 57 #[.slice A n c] w fun e w' => ∃ v, e = .returned v ∧ w'.ownsRow w.heap.size 51 2 v n (l.flatMap encS) ∧ Below w.heap.size w w' := by
  have q : ∀ (w : World) (a : Option Addr) (n c n' c' : Nat), (binOp .eql 46 (.slice a n c) (.slice none n' c')).run Try.prog w = .ok (.bool a.isNone) w := fun w a n c n' c' => Lib.run_eql_slice_nil w _ _ a n c n' c' Try.underlying46
  have HL := Lib.hid hl
  have hcap : c ≤ 9223372036854775807 := hl.cap
  have hle := hl.le
  cases A with
  | none =>
    have hl0 : l = [] := by
      cases l with
      | nil => rfl
      | cons y l => obtain ⟨b, o, hA, _⟩ := hl.lies 0 y rfl; cases hA
    subst hl0
    have hm : n = 0 := hl.len.symm
    subst hm
    clear hl HL
    go_enter Try.func57, Try.ntmps57
    go_wp2_with fail
    go_ret
    exact ⟨_, rfl, World.ownsRow_nil _ _ _ _, Below.refl _ _⟩
  | some a =>
    clear hl
    go_enter Try.func57, Try.ntmps57
    go_wp2_with (at_builtin; (refine wpList_append_comes rfl _ _ 46 rfl w.heap.size 51 (.agg #[.int .i64 0, .int .u64 0]) 2 16 Try.underlying46 elemS rfl (by decide) _ (World.ownsRow_made w #[] 0 (Nat.le_refl _) (Nat.zero_le _) rfl) rfl rfl (HL.out.later ((Below.refl _ _).alloc (Nat.le_refl _) _)) (fun _ => rfl) encS_one (by omega) (by omega) (by simp) ?_)
                 intro v' w' hown' hb'
                 have HO := Lib.hid (And.intro hown' (((Below.refl w.heap.size w).alloc (Nat.le_refl _) _).trans hb'))
                 clear hown' hb')
    go_ret
    exact ⟨_, rfl, by have := HO.out.1; rw [Nat.zero_add, List.nil_append] at this; exact this, HO.out.2⟩
set_option maxRecDepth 20000 in
set_option maxHeartbeats 1000000 in
theorem indexS_any (A : Option Addr) (n c : Nat) (l : List Sam) (x : Sam) (w : World) (hl : Comes w 2 encS okS A n c l) (hn : n ≤ 1000000) :
    Calls Try.prog 69 #[.slice A n c, .agg #[.int .i64 x.1, .int .u64 x.2]] w fun e w' => e = .returned (.int .i64 (fstI (fun y => decide (x = y)) l)) ∧ Below w.heap.size w w' := by
  have HL := Lib.hid hl
  have hcap : c ≤ 9223372036854775807 := hl.cap
  have hle := hl.le
  obtain ⟨p, hp⟩ : ∃ p : Sam → Bool, (fun y => decide (x = y)) = p := ⟨_, rfl⟩
  have HPP : Hid (∀ y, p y = decide (x = y)) := Lib.hid (fun y => by rw [← hp])
  rw [hp]
  clear hl hp
  obtain ⟨x1, x2⟩ := x
  go_enter Try.func69, Try.ntmps69
  go_wp2_with fail
  obtain ⟨w0, hw0⟩ : ∃ w0, w.alloc (.cells #[.int .i64 x1, .int .u64 x2] 51) = w0 := ⟨_, rfl⟩
  have hb0 : Below w.heap.size w w0 := by rw [← hw0]; exact (Below.refl _ _).alloc (Nat.le_refl _) _
  have hbox : w0.heap[w.heap.size]? = some (.cells #[.int .i64 x1, .int .u64 x2] 51 (0, 0)) := by rw [← hw0]; exact heap_alloc_new w _
  rw [hw0]
  have HB0 := Lib.hid hb0
  have HX := Lib.hid hbox
  clear hw0 hb0 hbox
  go_loopw [8] (fun v8 wr => ∃ k : Nat, k ≤ n ∧ v8 = .int .i64 k ∧ (∀ j (hj : j < k) (hj2 : j < l.length), p l[j] = false) ∧ Below w0.heap.size w0 wr) (fun v8 _ => n - (intOf v8).toNat)
  case atStart => exact ⟨0, Nat.zero_le _, rfl, fun j hj => by omega, Below.refl _ _⟩
  case round =>
    obtain ⟨k, hk, rfl, hno, ho⟩ := hrel
    have hln := HL.out.len
    by_cases hlt : k < n
    · have hkl : k < l.length := by omega
      obtain ⟨b, o, rfl, hcs⟩ := S_cells HL.out.lies hkl
      obtain ⟨hc0, hc1⟩ := hcs _ (HB0.out.trans (ho.mono HB0.out.size))
      have hxr := (ho.block _ (World.block_lt_of_cell? w0 ⟨w.heap.size, 0, none⟩ (by rw [cell_of_row w0 _ _ _ _ _ HX.out]; rfl))).trans HX.out
      have hx0 : wr.cell? ⟨w.heap.size, 0, none⟩ = some (.int .i64 x1) := by rw [cell_of_row wr _ _ _ _ _ hxr]; rfl
      have hx1 : wr.cell? ⟨w.heap.size, 1, none⟩ = some (.int .u64 x2) := by rw [cell_of_row wr _ _ _ _ _ hxr]; rfl
      have hpy := HPP.out l[k]
      have HAT : Hid (p l[k] = true → fstI p l = (k : Int)) := Lib.hid (fun h => fstI_at p l k hkl (fun j hj => hno j hj (by omega)) h)
      have HNO : Hid (p l[k] = false → ∀ j (hj : j < k + 1) (hj2 : j < l.length), p l[j] = false) := Lib.hid (fun h j hj hj2 => by
        by_cases e : j = k
        · subst e; exact h
        · exact hno j (by omega) hj2)
      have HRNG := fstI_ge p l
      generalize l[k] = y at *
      obtain ⟨y1, y2⟩ := y
      simp only [] at hc0 hc1
      have HO := Lib.hid ho
      have i0 : (0 : Int) ≤ (k : Int) := by omega
      have i1 : (k : Int) < (n : Int) := by omega
      have hneq := fun w => eql_S x1 y1 x2 y2 w
      have hgd := guard_S
      clear ho hln hcs hno hxr
      by_cases hxy : (x1, x2) = (y1, y2)
      · have hsm : sameS x1 y1 x2 y2 = true := by
          injection hxy with e1 e2; subst e1 e2; unfold sameS; simp
        rw [hsm] at hneq
        rw [decide_eq_true hxy] at hpy
        have e := HAT.out hpy
        clear HNO HAT hpy hsm hxy
        go_wp2_with fail
        go_quiet (fail)
        go_wp2_with fail
        go_ret
        exact ⟨by rw [e]; rfl, HB0.out.trans ((HO.out.mono HB0.out.size).trans ⟨rfl, rfl, rfl, Nat.le_refl _, fun _ _ => rfl⟩)⟩
      · have hsm : sameS x1 y1 x2 y2 = false := by
          cases h : sameS x1 y1 x2 y2 with
          | false => rfl
          | true =>
            unfold sameS at h
            simp at h
            exact absurd (by rw [h.1, h.2]) hxy
        rw [hsm] at hneq
        rw [decide_eq_false hxy] at hpy
        have HN := Lib.hid (HNO.out hpy)
        clear HNO HAT hpy hsm hxy
        go_wp2_with fail
        go_quiet (fail)
        go_wp2_with fail
        go_roundw
        case rel => exact ⟨k + 1, by omega, by go_num, HN.out, HO.out.trans ⟨rfl, rfl, rfl, Nat.le_refl _, fun _ _ => rfl⟩⟩
        case measure => simp [intOf]; omega
    · obtain rfl : k = n := by omega
      have e := fstI_end p l (fun j hj => hno j (by omega) hj)
      have HE := Lib.hid e
      have HO := Lib.hid ho
      clear e ho hno hln
      go_wp2_with fail
      go_ret
      exact ⟨by rw [HE.out]; rfl, HB0.out.trans (HO.out.mono HB0.out.size)⟩
theorem containsS_any (A : Option Addr) (n c : Nat) (l : List Sam) (x : Sam) (w : World) (hl : Comes w 2 encS okS A n c l) (hn : n ≤ 1000000) :
    Calls Try.prog 54 #[.slice A n c, .agg #[.int .i64 x.1, .int .u64 x.2]] w fun e w' => e = .returned (.bool (decide (x ∈ l))) ∧ Below w.heap.size w w' := by
  have K := Lib.hid (fun W (h : Below w.heap.size w W) => indexS_any A n c l x W (hl.later h) hn)
  have HR := fstI_ge (fun y => decide (x = y)) l
  have HA : Hid (decide (x ∈ l) = decide (0 ≤ fstI (fun y => decide (x = y)) l)) := Lib.hid (by
    rw [decide_eq_decide]
    unfold fstI
    cases h : l.findIdx? (fun y => decide (x = y)) with
    | none =>
      rw [List.findIdx?_eq_none_iff] at h
      simp only []
      constructor
      · intro hx; have := h x hx; simp at this
      · intro hx; omega
    | some i =>
      rw [List.findIdx?_eq_some_iff_getElem] at h
      obtain ⟨hi, hp, -⟩ := h
      simp only []
      constructor
      · intro _; omega
      · intro _; rw [of_decide_eq_true hp]; exact List.getElem_mem hi)
  rw [HA.out]
  have hln := hl.len
  obtain ⟨F, hF⟩ : ∃ F, fstI (fun y => decide (x = y)) l = F := ⟨_, rfl⟩
  rw [hF] at K HR ⊢
  clear hl HA hF
  obtain ⟨x1, x2⟩ := x
  go_enter Try.func54, Try.ntmps54
  go_wp2_with fail
  refine (K.out _ ((Below.refl _ _).alloc (Nat.le_refl _) _)).mono ?_
  rintro e w1 ⟨rfl, hb1⟩
  have HB := Lib.hid (((Below.refl w.heap.size w).alloc (Nat.le_refl _) _).trans (hb1.mono (by simp)))
  clear hb1
  go_wp2_with fail
  go_ret
  exact ⟨rfl, HB.out⟩
set_option maxRecDepth 20000 in
set_option maxHeartbeats 2000000 in
theorem equalS_any (A : Option Addr) (n c : Nat) (l : List Sam) (A2 : Option Addr) (n2 c2 : Nat) (l2 : List Sam) (w : World) (hl : Comes w 2 encS okS A n c l) (hl2 : Comes w 2 encS okS A2 n2 c2 l2) :
    Calls Try.prog 28 #[.slice A n c, .slice A2 n2 c2] w fun e w' => e = .returned (.bool (decide (l = l2))) ∧ Below w.heap.size w w' := by
  have HL := Lib.hid hl
  have HL2 := Lib.hid hl2
  have hcap : c ≤ 9223372036854775807 := hl.cap
  have hle := hl.le
  have hcap2 : c2 ≤ 9223372036854775807 := hl2.cap
  have hle2 := hl2.le
  clear hl hl2
  by_cases hnn : n = n2
  · subst hnn
    go_enter Try.func28, Try.ntmps28
    go_wp2_with fail
    go_loopw [13] (fun v5 wr => ∃ k : Nat, k ≤ n ∧ v5 = .int .i64 k ∧ l.take k = l2.take k ∧ Below w.heap.size w wr) (fun v5 _ => n - (intOf v5).toNat)
    case atStart => exact ⟨0, Nat.zero_le _, rfl, rfl, Below.refl _ _⟩
    case round =>
      obtain ⟨k, hk, rfl, ht, ho⟩ := hrel
      have hln := HL.out.len
      have hln2 := HL2.out.len
      by_cases hlt : k < n
      · have hkl : k < l.length := by omega
        have hkl2 : k < l2.length := by omega
        obtain ⟨b, o, rfl, hcs⟩ := S_cells HL.out.lies hkl
        obtain ⟨b2, o2, rfl, hcs2⟩ := S_cells HL2.out.lies hkl2
        obtain ⟨hc0, hc1⟩ := hcs _ ho
        obtain ⟨hd0, hd1⟩ := hcs2 _ ho
        have hs1 := take_snocL l k hkl
        have hs2 := take_snocL l2 k hkl2
        generalize l[k] = x at *
        generalize l2[k] = y at *
        obtain ⟨x1, x2⟩ := x
        obtain ⟨y1, y2⟩ := y
        simp only [] at hc0 hc1 hd0 hd1
        have HO := Lib.hid ho
        have HT := Lib.hid ht
        rw [← ht] at hs2
        have HS := Lib.hid (And.intro hs1 hs2)
        clear hs1 hs2
        have i0 : (0 : Int) ≤ (k : Int) := by omega
        have i1 : (k : Int) < (n : Int) := by omega
        clear ho hln hcs hcs2 hln2
        have hneq := fun w => neq_S x1 y1 x2 y2 w
        have hgd := guard_S
        by_cases hxy : (x1, x2) = (y1, y2)
        · have hsm : sameS x1 y1 x2 y2 = true := by
            injection hxy with e1 e2; subst e1 e2; unfold sameS; simp
          rw [hsm] at hneq
          have HX := Lib.hid hxy
          clear hxy hsm ht
          go_wp2_with fail
          go_quiet (fail)
          go_wp2_with fail
          go_roundw
          case rel => exact ⟨k + 1, by omega, by go_num, by rw [HS.out.1, HS.out.2, HT.out, HX.out], HO.out.trans ⟨rfl, rfl, rfl, Nat.le_refl _, fun _ _ => rfl⟩⟩
          case measure => simp [intOf]; omega
        · have hsm : sameS x1 y1 x2 y2 = false := by
            cases h : sameS x1 y1 x2 y2 with
            | false => rfl
            | true =>
              unfold sameS at h
              simp at h
              exact absurd (by rw [h.1, h.2]) hxy
          rw [hsm] at hneq
          have hno : l ≠ l2 := by
            intro e
            have h1 := HS.out.1; have h2 := HS.out.2
            rw [e] at h1
            rw [h1, ht] at h2
            have := List.append_cancel_left h2
            simp at this
            exact hxy (by rw [this.1, this.2])
          have HX := Lib.hid hno
          clear hxy hsm hno ht
          go_wp2_with fail
          go_quiet (fail)
          go_wp2_with fail
          go_ret
          exact ⟨by rw [decide_eq_false HX.out]; rfl, HO.out.trans ⟨rfl, rfl, rfl, Nat.le_refl _, fun _ _ => rfl⟩⟩
      · obtain rfl : k = n := by omega
        rw [List.take_of_length_le (by omega), List.take_of_length_le (by omega)] at ht
        have HO := Lib.hid (And.intro ho ht)
        clear ho ht hln hln2
        go_wp2_with fail
        go_ret
        exact ⟨by rw [decide_eq_true HO.out.2]; rfl, HO.out.1⟩
  · have hno : l ≠ l2 := by
      intro e; apply hnn; rw [← HL.out.len, ← HL2.out.len, e]
    have HX := Lib.hid hno
    have hni : ¬ ((n : Int) = (n2 : Int)) := by omega
    have hne2 : ((n : Int) != (n2 : Int)) = true := by simpa using hni
    clear hni
    clear hno hnn
    go_enter Try.func28, Try.ntmps28
    go_wp2_with fail
    go_ret
    exact ⟨by rw [decide_eq_false HX.out]; rfl, Below.refl _ _⟩
end Go.Proofs.Ytdjgndnllaingaa.TrW
/-
  truth.timely, Find, Fits, count: THE WALKS.
-/
namespace Go.Proofs.Ytdjgndnllaingaa.TrW
set_option linter.unusedVariables false
open Go.RowKit Go.Shelf LabM LbM LabW FrW TrM
theorem timely_any (t : Int) (w : World) : Calls Try.prog 29 #[.int .i64 t] w fun e w' => e = .returned (.bool (timely t)) ∧ w = w' := by
  have HT : Hid (timely t = (decide (0 ≤ t) && decide (t ≤ 1125899906842624))) := Lib.hid rfl
  rw [HT.out]
  by_cases h0 : 0 ≤ t
  · go_enter Try.func29, Try.ntmps29
    go_wp2
    go_ret
    exact ⟨by rw [decide_eq_true h0]; rfl, rfl⟩
  · go_enter Try.func29, Try.ntmps29
    go_wp2
    go_ret
    exact ⟨by rw [decide_eq_false (show ¬ 0 ≤ t by omega)]; rfl, rfl⟩
theorem few_n {w : World} {A : Option Addr} {n c : Nat} {l : List Lab} (h : Comes w 2 encL okL A n c l) (hf : fewB l = true) : n ≤ 10 ∧ shortL l := by
  have h1 := (fewB_iff l).1 hf
  have h2 := h.len
  exact ⟨by omega, h1.2⟩
/-- label.Same, where there are few. -/
theorem lsame_any (A1 : Option Addr) (n1 c1 : Nat) (a : List Lab) (A2 : Option Addr) (n2 c2 : Nat) (b : List Lab) (w : World) (ha : Comes w 2 encL okL A1 n1 c1 a) (hb : Comes w 2 encL okL A2 n2 c2 b) (h1 : fewB a = true) (h2 : fewB b = true) :
    Calls Try.prog 27 #[.slice A1 n1 c1, .slice A2 n2 c2] w fun e w' => e = .returned (.bool (decide (a = b))) ∧ Below w.heap.size w w' :=
  same_any A1 n1 c1 a A2 n2 c2 b w ha hb (few_n ha h1).1 (few_n hb h2).1 (few_n ha h1).2 (few_n hb h2).2
theorem lless_any (A1 : Option Addr) (n1 c1 : Nat) (a : List Lab) (A2 : Option Addr) (n2 c2 : Nat) (b : List Lab) (w : World) (ha : Comes w 2 encL okL A1 n1 c1 a) (hb : Comes w 2 encL okL A2 n2 c2 b) (h1 : fewB a = true) (h2 : fewB b = true) :
    Calls Try.prog 31 #[.slice A1 n1 c1, .slice A2 n2 c2] w fun e w' => e = .returned (.bool (lessL a b)) ∧ Below w.heap.size w w' :=
  less_any A1 n1 c1 a A2 n2 c2 b w ha hb (few_n ha h1).1 (few_n hb h2).1 (few_n ha h1).2 (few_n hb h2).2
/-- A box of labels, as a closure sees it. -/
def BoxL (W : World) (g : Nat) (A : Option Addr) (n c : Nat) : Prop := W.cell? ⟨g, 0, none⟩ = some (.slice A n c)
theorem BoxL.later {W W' : World} {g : Nat} {A : Option Addr} {n c : Nat} (h : BoxL W g A n c) (hb : Below W.heap.size W W') : BoxL W' g A n c :=
  (hb.cell (p := ⟨g, 0, none⟩) (World.block_lt_of_cell? W _ h)).trans h
set_option maxHeartbeats 1000000 in
theorem find1_any (x : SerH) (g : Nat) (A2 : Option Addr) (n2 c2 : Nat) (l : List Lab) (W : World) (hg : BoxL W g A2 n2 c2) (hx : okR W x) (hl : Comes W 2 encL okL A2 n2 c2 l) (hf : fewB x.1.2 = true) (hf2 : fewB l = true) :
    Calls Try.prog 33 (#[serV x] ++ #[.pointer (some ⟨g, 0, none⟩)]) W fun e W' => e = .returned (.bool (decide (x.1.2 = l))) ∧ Below W.heap.size W W' := by
  obtain ⟨⟨⟨A1, n1, c1⟩, L⟩, ⟨⟨A3, n3, c3⟩, S⟩, T⟩ := x
  have K := Lib.hid (fun W' (h : Below W.heap.size W W') => lsame_any A1 n1 c1 L A2 n2 c2 l W' (hx.lab.later h) (hl.later h) hf hf2)
  have hg2 : (W.alloc (.cells #[.slice A1 n1 c1, .slice A3 n3 c3, .int .i64 T] 48)).cell? ⟨g, 0, none⟩ = some (.slice A2 n2 c2) := hg.later ((Below.refl _ _).alloc (Nat.le_refl _) _)
  have HB0 := Lib.hid (show Below W.heap.size W (W.alloc (.cells #[.slice A1 n1 c1, .slice A3 n3 c3, .int .i64 T] 48)) from (Below.refl _ _).alloc (Nat.le_refl _) _)
  clear hg hx hl
  show Calls Try.prog 33 #[.agg #[.slice A1 n1 c1, .slice A3 n3 c3, .int .i64 T], .pointer (some ⟨g, 0, none⟩)] W _
  go_enter Try.func33, Try.ntmps33
  go_wp2_with fail
  refine (K.out _ HB0.out).mono ?_
  rintro e w1 ⟨rfl, hb1⟩
  have HB := Lib.hid (later HB0.out hb1)
  clear hb1
  go_wp2_with fail
  go_ret
  exact ⟨rfl, HB.out⟩
theorem findI_abs (hs : List SerH) (l : List Lab) : fstI (fun x => decide (x.1.2 = l)) hs = findI (hs.map absR) l := by
  unfold fstI findI fnd
  rw [List.findIdx?_map]
  rfl
/-- All labels of a state are few. -/
def FewS (hs : List SerH) : Prop := ∀ x ∈ hs, fewB x.1.2 = true
set_option maxHeartbeats 1000000 in
theorem find_any (A : Option Addr) (n c : Nat) (hs : List SerH) (f : Int) (A2 : Option Addr) (n2 c2 : Nat) (l : List Lab) (w : World) (hl : Sers w A n c hs) (hn : n ≤ 1000000) (hF : FewS hs) (hl2 : Comes w 2 encL okL A2 n2 c2 l) (hf2 : fewB l = true) :
    Calls Try.prog 16 #[.agg #[.slice A n c, .int .i64 f], .slice A2 n2 c2] w fun e w' => e = .returned (.int .i64 (findI (hs.map absR) l)) ∧ Below w.heap.size w w' := by
  rw [← findI_abs]
  have KI : Hid (∀ W g, Below w.heap.size w W → BoxL W g A2 n2 c2 → Calls Try.prog 32 #[.slice A n c, .func (.func 33) #[] #[.pointer (some ⟨g, 0, none⟩)]] W fun e w' => e = .returned (.int .i64 (fstI (fun x => decide (x.1.2 = l)) hs)) ∧ Below W.heap.size W w') := Lib.hid (fun W g h hg =>
    indexR_any 33 #[.pointer (some ⟨g, 0, none⟩)] (fun x => decide (x.1.2 = l)) (enters_of Try.func33 (by kernel_rfl) rfl) A n c hs W (hl.later h) hn
      (fun x hx W2 hW2 => find1_any x g A2 n2 c2 l W2 (hg.later hW2) (((hl.ok x hx).later h).later hW2) ((hl2.later h).later hW2) (hF x hx) hf2))
  obtain ⟨R, hR⟩ : ∃ R, fstI (fun x : SerH => decide (x.1.2 = l)) hs = R := ⟨_, rfl⟩
  rw [hR] at KI ⊢
  clear hl hF hl2 hR
  go_enter Try.func16, Try.ntmps16
  go_wp2_with fail
  have hb0 : Below w.heap.size w ((w.alloc (.cells #[.slice A n c, .int .i64 f] 28)).alloc (.cells #[.slice A2 n2 c2] 35)) := ((Below.refl _ _).alloc (Nat.le_refl _) _).alloc (by simp) _
  have hbx : BoxL ((w.alloc (.cells #[.slice A n c, .int .i64 f] 28)).alloc (.cells #[.slice A2 n2 c2] 35)) (w.heap.size + 1) A2 n2 c2 := by
    unfold BoxL
    have h := heap_alloc_new (w.alloc (.cells #[.slice A n c, .int .i64 f] 28)) (.cells #[.slice A2 n2 c2] 35)
    rw [show (w.alloc (.cells #[.slice A n c, .int .i64 f] 28)).heap.size = w.heap.size + 1 by simp] at h
    rw [cell_of_row _ _ _ _ _ _ h]; rfl
  have HB0 := Lib.hid hb0
  refine (KI.out _ _ hb0 hbx).mono ?_
  rintro e w1 ⟨rfl, hb1⟩
  have HB := Lib.hid (later HB0.out hb1)
  clear hb1 hb0 hbx
  go_wp2_with fail
  go_ret
  exact ⟨rfl, HB.out⟩
def BoxI (W : World) (g : Nat) (x : Int) : Prop := W.cell? ⟨g, 0, none⟩ = some (.int .i64 x)
theorem BoxI.later {W W' : World} {g : Nat} {x : Int} (h : BoxI W g x) (hb : Below W.heap.size W W') : BoxI W' g x :=
  (hb.cell (p := ⟨g, 0, none⟩) (World.block_lt_of_cell? W _ h)).trans h
set_option maxHeartbeats 1000000 in
theorem fits1_any (x : SerH) (g : Nat) (gen : Int) (W : World) (hg : BoxI W g gen) (hx : okR W x) :
    Calls Try.prog 41 (#[serV x] ++ #[.pointer (some ⟨g, 0, none⟩)]) W fun e W' => e = .returned (.bool (decide (limI gen < (longL x.1.2 : Int)))) ∧ Below W.heap.size W W' := by
  obtain ⟨⟨⟨A1, n1, c1⟩, L⟩, ⟨⟨A3, n3, c3⟩, S⟩, T⟩ := x
  obtain ⟨W0, hW0⟩ : ∃ W0, W.alloc (.cells #[.slice A1 n1 c1, .slice A3 n3 c3, .int .i64 T] 48) = W0 := ⟨_, rfl⟩
  have hb0 : Below W.heap.size W W0 := by rw [← hW0]; exact (Below.refl _ _).alloc (Nat.le_refl _) _
  have hr0 : W0.heap[W.heap.size]? = some (.cells #[.slice A1 n1 c1, .slice A3 n3 c3, .int .i64 T] 48 (0, 0)) := by rw [← hW0]; exact heap_alloc_new W _
  have K := Lib.hid (fun (W' : World) (h : Below W0.heap.size W0 W' ∧ W'.cell? ⟨g, 0, none⟩ = some (.int .i64 gen) ∧ W'.cell? ⟨W.heap.size, 0, none⟩ = some (.slice A1 n1 c1)) => longest_any A1 n1 c1 L W' (hx.lab.later (hb0.trans (h.1.mono hb0.size))))
  have K2 : Hid (∀ W', Calls Try.prog 43 #[.int .i64 gen] W' fun e w' => e = .returned (.int .i64 (limI gen)) ∧ Below W'.heap.size W' w') := Lib.hid (fun W' => (limit_any gen W').mono (fun e w' h => ⟨h.1, by rw [h.2]; exact Below.refl _ _⟩))
  have HK := Lib.hid (fun (W1 W' : World) (h : Below W0.heap.size W0 W1) (hb : Below W1.heap.size W1 W') =>
    (⟨later h hb, hg.later (hb0.trans ((later h hb).mono hb0.size)), by rw [cell_of_row _ _ _ _ _ _ (((later h hb).block _ (Array.getElem?_eq_some_iff.1 hr0).1).trans hr0)]; rfl⟩ : Below W0.heap.size W0 W' ∧ W'.cell? ⟨g, 0, none⟩ = some (.int .i64 gen) ∧ W'.cell? ⟨W.heap.size, 0, none⟩ = some (.slice A1 n1 c1)))
  have K0 := HK.out _ _ (Below.refl _ _) (below_self_drew _)
  clear hg hx
  show Calls Try.prog 41 #[.agg #[.slice A1 n1 c1, .slice A3 n3 c3, .int .i64 T], .pointer (some ⟨g, 0, none⟩)] W _
  go_enter Try.func41, Try.ntmps41
  go_wp2_with fail
  have HB0 := Lib.hid hb0
  clear hb0 hr0 hW0
  go_region_held3 (fun W1 : World => Below W0.heap.size W0 W1 ∧ W1.cell? ⟨g, 0, none⟩ = some (.int .i64 gen) ∧ W1.cell? ⟨W.heap.size, 0, none⟩ = some (.slice A1 n1 c1))
    (first | exact K0 | exact HK.out _ _ (And.left (by assumption)) (by assumption))
    (first
      | (go_at_call 42; (refine (K.out _ (by assumption)).mono ?_); rintro e w5 ⟨rfl, hb5⟩)
      | (go_at_call 43; (refine (K2.out _).mono ?_); rintro e w6 ⟨rfl, hb6⟩))
  all_goals (
    rename_i hh
    have HH := Lib.hid hh.1
    clear hh
    go_wp2_with fail
    go_ret
    exact ⟨rfl, HB0.out.trans (HH.out.mono HB0.out.size)⟩)
end Go.Proofs.Ytdjgndnllaingaa.TrW
