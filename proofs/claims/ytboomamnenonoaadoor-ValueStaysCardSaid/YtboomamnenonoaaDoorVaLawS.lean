/-
  ValueStays: THE WALK.
-/
import Derived.Test.YtboomamnenonoaaDoorVaWorks
import Derived.Deep.RegionHeld3
namespace Go.Proofs.YtboomamnenonoaaDoor.VaW
set_option linter.unusedVariables false
open Go.RowKit Go.Shelf BitsM BitsW VaM
/-- The state's box g and the writer bw, since w. -/
structure SM (w : World) (g bw : Nat) (W : World) (bs : List Bool) (s : Sv) : Prop where
  bl : Below w.heap.size w W
  wr : ∃ rb, WriterAt W bw rb bs ∧ ∀ h, rb = some h → bw ≤ h
  box : VaAt W g s
  gb : w.heap.size ≤ g ∧ g < bw
theorem SM.below {w W W' : World} {g bw : Nat} {bs : List Bool} {s : Sv} (h : SM w g bw W bs s) (hb : Below W.heap.size W W') : SM w g bw W' bs s := by
  obtain ⟨rb, h1, h2⟩ := h.wr
  exact ⟨later h.bl hb, ⟨rb, h1.later hb, h2⟩, h.box.later hb, h.gb⟩
theorem SM.drew {w W : World} {g bw : Nat} {bs : List Bool} {s : Sv} (h : SM w g bw W bs s) : SM w g bw W.drew bs s := h.below ⟨rfl, rfl, rfl, Nat.le_refl _, fun _ _ => rfl⟩
theorem SM.put {w W : World} {g bw : Nat} {bs : List Bool} {s : Sv} (h : SM w g bw W bs s) (hl : bs.length + 200 ≤ 1099511627776) (s2 : Sv) (v : Nat) (hs : okV s2) (hv : v < 18446744073709551616) (hN : s2.1 ≤ 4398046511104) (hT : Tab W) :
    Calls Tryd.prog 18 #[.pointer (some ⟨bw, 0, none⟩), .agg #[.int .i64 (s2.1 : Int), .int .u64 (s2.2.1 : Int), .int .i64 (s2.2.2.1 : Int), .int .i64 (s2.2.2.2 : Int)], .int .u64 (v : Int)] W fun e W' => e = .returned (.agg #[.int .i64 ((aftV s2 v).1 : Int), .int .u64 ((aftV s2 v).2.1 : Int), .int .i64 ((aftV s2 v).2.2.1 : Int), .int .i64 ((aftV s2 v).2.2.2 : Int)]) ∧ SM w g bw W' (bs ++ putV s2 v) s := by
  obtain ⟨rb, h1, h2⟩ := h.wr
  refine (put_val bw rb bs s2 v W h1 hl hs hv hN hT).mono ?_
  rintro e W' ⟨rfl, q⟩
  refine ⟨rfl, ?_⟩
  obtain ⟨rb', q1, q2⟩ := q.wr
  obtain ⟨g1, g2⟩ := h.gb
  have hsz := h.bl.size
  have hbw := h1.lt
  refine ⟨h.bl.trans ⟨q.os, q.tape, q.output, q.size, fun k hk => q.old k (by omega) (by omega) (fun e => by have := h2 k e.symm; omega)⟩, ⟨rb', q1, ?_⟩, (q.old g (by omega) (by omega) (fun e => by have := h2 g e.symm; omega)).trans h.box, h.gb⟩
  rcases q2 with q2 | ⟨g', q2, q3⟩
  · rw [q2]; exact h2
  · intro x hx; rw [q2] at hx; cases hx; omega
theorem SM.len {w W : World} {g bw : Nat} {bs : List Bool} {s : Sv} (h : SM w g bw W bs s) : Calls Tryd.prog 16 #[.pointer (some ⟨bw, 0, none⟩)] W fun e W' => e = .returned (.int .i64 (bs.length : Int)) ∧ W = W' := by
  obtain ⟨rb, h1, -⟩ := h.wr
  exact len_any bw rb bs W h1
theorem SM.set {w W : World} {g bw : Nat} {bs : List Bool} {s : Sv} (h : SM w g bw W bs s) (s2 : Sv) : SM w g bw (W.setRow g #[.int .i64 (s2.1 : Int), .int .u64 (s2.2.1 : Int), .int .i64 (s2.2.2.1 : Int), .int .i64 (s2.2.2.2 : Int)]) bs s2 := by
  obtain ⟨rb, h1, h2⟩ := h.wr
  obtain ⟨g1, g2⟩ := h.gb
  have hb1 : bw ≠ g := by omega
  have hrk : ∀ k, rb = some k → k ≠ g := by intro k hk e; have := h2 k hk; omega
  refine ⟨h.bl.trans ⟨rfl, rfl, rfl, by simp, fun k hk => setRow_other W g k _ (by omega)⟩, ⟨rb, h1.of_blocks (fun cs' t fr hx => (setRow_other W g bw _ hb1).trans hx) (fun k hk cs' t fr hx => (setRow_other W g k _ (hrk k hk)).trans hx), h2⟩, setRow_heap W g _ _ _ _ h.box, h.gb⟩
def set4 (W : World) (z : Nat) (a b c d : Value) : World := (((W.setCell ⟨z, 0, none⟩ a).setCell ⟨z, 1, none⟩ b).setCell ⟨z, 2, none⟩ c).setCell ⟨z, 3, none⟩ d
theorem set4_other (W : World) (z : Nat) (a b c d : Value) (k : Nat) (h : k ≠ z) : (set4 W z a b c d).heap[k]? = W.heap[k]? :=
  (heap_setCell_other _ _ _ _ h).trans ((heap_setCell_other _ _ _ _ h).trans ((heap_setCell_other _ _ _ _ h).trans (heap_setCell_other _ _ _ _ h)))
theorem set4_size (W : World) (z : Nat) (a b c d : Value) : (set4 W z a b c d).heap.size = W.heap.size := by simp [set4]
theorem set4_row {W : World} {z : Nat} {s : Sv} (h : VaAt W z (0, 0, 0, 0)) : VaAt (set4 W z (.int .i64 (s.1 : Int)) (.int .u64 (s.2.1 : Int)) (.int .i64 (s.2.2.1 : Int)) (.int .i64 (s.2.2.2 : Int))) z s :=
  heap_setCell_same _ _ 3 _ _ _ (heap_setCell_same _ _ 2 _ _ _ (heap_setCell_same _ _ 1 _ _ _ (heap_setCell_same _ _ 0 _ _ _ h)))
def Zero4 (W : World) (z : Nat) : Prop := W.cell? ⟨z, 0, none⟩ = some (.int .i64 0) ∧ W.cell? ⟨z, 1, none⟩ = some (.int .u64 0) ∧ W.cell? ⟨z, 2, none⟩ = some (.int .i64 0) ∧ W.cell? ⟨z, 3, none⟩ = some (.int .i64 0) ∧ W.frozen? ⟨z, 0, none⟩ = false ∧ W.frozen? ⟨z, 1, none⟩ = false ∧ W.frozen? ⟨z, 2, none⟩ = false ∧ W.frozen? ⟨z, 3, none⟩ = false
theorem zero4 {W : World} {z : Nat} (h : VaAt W z (0, 0, 0, 0)) : Zero4 W z := ⟨h.c0, h.c1, h.c2, h.c3, frozen_of_row W _ 0 _ _ h, frozen_of_row W _ 1 _ _ h, frozen_of_row W _ 2 _ _ h, frozen_of_row W _ 3 _ _ h⟩
theorem SM.put_zero {w W : World} {g bw : Nat} {bs : List Bool} {s : Sv} (h : SM w g bw W bs s) (hl : bs.length + 200 ≤ 1099511627776) (s2 : Sv) (v : Nat) (hs : okV s2) (hv : v < 18446744073709551616) (hN : s2.1 ≤ 4398046511104) (hT : Tab (W.alloc (VaObj (0, 0, 0, 0))).drew) :
    Calls Tryd.prog 18 #[.pointer (some ⟨bw, 0, none⟩), .agg #[.int .i64 (s2.1 : Int), .int .u64 (s2.2.1 : Int), .int .i64 (s2.2.2.1 : Int), .int .i64 (s2.2.2.2 : Int)], .int .u64 (v : Int)] (W.alloc (VaObj (0, 0, 0, 0))).drew fun e W' => e = .returned (.agg #[.int .i64 ((aftV s2 v).1 : Int), .int .u64 ((aftV s2 v).2.1 : Int), .int .i64 ((aftV s2 v).2.2.1 : Int), .int .i64 ((aftV s2 v).2.2.2 : Int)]) ∧ SM w g bw W' (bs ++ putV s2 v) s ∧ VaAt W' W.heap.size (0, 0, 0, 0) ∧ (∀ a b c d, SM w g bw (set4 W' W.heap.size a b c d) (bs ++ putV s2 v) s) ∧ Zero4 W' W.heap.size := by
  obtain ⟨rb, h1, h2⟩ := h.wr
  have hA : Below W.heap.size W (W.alloc (VaObj (0, 0, 0, 0))).drew := ((Below.refl _ _).alloc (Nat.le_refl _) _).trans ⟨rfl, rfl, rfl, Nat.le_refl _, fun _ _ => rfl⟩
  have hsA : (W.alloc (VaObj (0, 0, 0, 0))).drew.heap.size = W.heap.size + 1 := by show (W.alloc (VaObj (0, 0, 0, 0))).heap.size = _; exact box_v W _
  have hzA : VaAt (W.alloc (VaObj (0, 0, 0, 0))).drew W.heap.size (0, 0, 0, 0) := heap_alloc_new W _
  refine (put_val bw rb bs s2 v _ (h1.later hA) hl hs hv hN hT).mono ?_
  rintro e W' ⟨rfl, q⟩
  obtain ⟨rb', q1, q2⟩ := q.wr
  obtain ⟨g1, g2⟩ := h.gb
  have hsz := h.bl.size
  have hbw := h1.lt
  have hzz : VaAt W' W.heap.size (0, 0, 0, 0) := (q.old W.heap.size (by omega) (by omega) (fun e => by have := h1.rlt _ e.symm; omega)).trans hzA
  have hgb : VaAt W' g s := (q.old g (by omega) (by omega) (fun e => by have := h2 g e.symm; omega)).trans (h.box.later hA)
  have hrb : ∀ x, rb' = some x → bw ≤ x ∧ x ≠ W.heap.size := by
    rcases q2 with q2 | ⟨g', q2, q3⟩
    · intro x hx; rw [q2] at hx; exact ⟨h2 x hx, by have := h1.rlt x hx; omega⟩
    · intro x hx; rw [q2] at hx; cases hx; omega
  have hbl : Below w.heap.size w W' := (h.bl.trans (hA.mono hsz)).trans ⟨q.os, q.tape, q.output, q.size, fun k hk => q.old k (by omega) (by omega) (fun e => by have := h2 k e.symm; omega)⟩
  have hSM : SM w g bw W' (bs ++ putV s2 v) s := ⟨hbl, ⟨rb', q1, fun x hx => (hrb x hx).1⟩, hgb, h.gb⟩
  refine ⟨rfl, hSM, hzz, fun a b c d => ?_, zero4 hzz⟩
  refine ⟨hbl.trans ⟨rfl, rfl, rfl, by rw [set4_size]; exact Nat.le_refl _, fun k hk => set4_other _ _ _ _ _ _ _ (by omega)⟩, ⟨rb', q1.of_blocks (fun cs' t fr hx => (set4_other _ _ _ _ _ _ _ (by omega)).trans hx) (fun k hk cs' t fr hx => (set4_other _ _ _ _ _ _ _ (hrb k hk).2).trans hx), fun x hx => (hrb x hx).1⟩, (set4_other _ _ _ _ _ _ _ (by omega)).trans hgb, h.gb⟩
set_option maxRecDepth 20000 in
set_option maxHeartbeats 8000000 in
theorem valueStays_bad (N0 V0 L0 T0 : Int) (A : Option Addr) (n c : Nat) (l : List Nat) (w : World) (hV0 : 0 ≤ V0 ∧ V0 < 18446744073709551616) (hT0 : T0 ≤ 9223372036854775807) (hvf : validB N0 L0 T0 = false) (hl : Comes w 1 encU okU A n c l) (hT : Tab w) :
    Calls Tryd.prog 5 #[.agg #[.int .i64 N0, .int .u64 V0, .int .i64 L0, .int .i64 T0], .slice A n c] w fun e w' => e = .returned (.bool true) ∧ Below w.heap.size w w' := by
  have HL := Lib.hid hl
  have HTT : Hid (∀ W, Below w.heap.size w W → Tab W) := Lib.hid fun W h => hT.later h
  have hcap : c ≤ 9223372036854775807 := hl.cap
  have hle := hl.le
  have HX := Lib.hid (And.intro hV0 (And.intro hT0 hvf))
  have hbox0 : (w.alloc (.cells #[.int .i64 N0, .int .u64 V0, .int .i64 L0, .int .i64 T0] 31 (0, 0))).heap[w.heap.size]? = some (.cells #[.int .i64 N0, .int .u64 V0, .int .i64 L0, .int .i64 T0] 31 (0, 0)) := heap_alloc_new w _
  have HB0 := Lib.hid (And.intro ((Below.refl w.heap.size w).alloc (Nat.le_refl _) (.cells #[.int .i64 N0, .int .u64 V0, .int .i64 L0, .int .i64 T0] 31 (0, 0))) hbox0)
  clear hl hT hV0 hT0 hbox0 hvf
  go_enter Tryd.func5, Tryd.ntmps5
  go_wp2_with fail
  refine (works_any _ (HTT.out _ HB0.out.1)).mono ?_
  rintro e w1 ⟨rfl, hb1⟩
  have HB1 := Lib.hid (show Below w.heap.size w w1 from HB0.out.1.trans (hb1.mono (by simp)))
  have hbox1 := (hb1.block w.heap.size (by simp)).trans HB0.out.2
  have HBX := Lib.hid hbox1
  have HZ1 := Lib.hid (show w.heap.size < w1.heap.size by have := hb1.size; simp at this; omega)
  clear hb1 hbox1 HB0
  go_wp2_with fail
  refine (newWriter_any _).mono ?_
  rintro e w2 ⟨rfl, hw2, hb2, hz2⟩
  have HB2 := Lib.hid (later HB1.out hb2)
  have hbox2 := (hb2.block w.heap.size HZ1.out).trans HBX.out
  have c0 : w2.cell? ⟨w.heap.size, 0, none⟩ = some (.int .i64 N0) := by rw [cell_of_row w2 _ _ _ _ _ hbox2]; rfl
  have c1 : w2.cell? ⟨w.heap.size, 1, none⟩ = some (.int .u64 V0) := by rw [cell_of_row w2 _ _ _ _ _ hbox2]; rfl
  have c2 : w2.cell? ⟨w.heap.size, 2, none⟩ = some (.int .i64 L0) := by rw [cell_of_row w2 _ _ _ _ _ hbox2]; rfl
  have c3 : w2.cell? ⟨w.heap.size, 3, none⟩ = some (.int .i64 T0) := by rw [cell_of_row w2 _ _ _ _ _ hbox2]; rfl
  have HW2 := Lib.hid (And.intro hw2 hbox2)
  clear hw2 hb2 hz2 hbox2 HBX
  by_cases n60 : 60 < n
  · go_wp2
    go_ret
    exact ⟨rfl, HB2.out⟩
  by_cases nbig : 1099511627776 < N0
  · go_wp2
    go_ret
    exact ⟨rfl, HB2.out⟩
  go_wp2_with fail
  refine (valid_any N0 V0 L0 T0 _ HX.out.2.1).mono ?_
  rintro e w3 ⟨rfl, hb3⟩
  have HB3 := Lib.hid (later HB2.out hb3)
  rw [HX.out.2.2]
  clear hb3
  go_wp2
  go_ret
  exact ⟨rfl, HB3.out⟩
set_option maxRecDepth 20000 in
set_option maxHeartbeats 8000000 in
theorem valueStays_good (s0 : Sv) (A : Option Addr) (n c : Nat) (l : List Nat) (w : World) (hs0 : okV s0) (hl : Comes w 1 encU okU A n c l) (hT : Tab w) :
    Calls Tryd.prog 5 #[.agg #[.int .i64 (s0.1 : Int), .int .u64 (s0.2.1 : Int), .int .i64 (s0.2.2.1 : Int), .int .i64 (s0.2.2.2 : Int)], .slice A n c] w fun e w' => e = .returned (.bool true) ∧ Below w.heap.size w w' := by
  have HL := Lib.hid hl
  have HTT : Hid (∀ W, Below w.heap.size w W → Tab W) := Lib.hid fun W h => hT.later h
  have hcap : c ≤ 9223372036854775807 := hl.cap
  have hle := hl.le
  have HX := Lib.hid hs0
  have HV := Lib.hid (fun W => valid_ok s0 W hs0)
  obtain ⟨N0, V0, L0, T0⟩ := s0
  simp only [] at HV ⊢
  have hbox0 : (w.alloc (.cells #[.int .i64 (N0 : Int), .int .u64 (V0 : Int), .int .i64 (L0 : Int), .int .i64 (T0 : Int)] 31 (0, 0))).heap[w.heap.size]? = some (.cells #[.int .i64 (N0 : Int), .int .u64 (V0 : Int), .int .i64 (L0 : Int), .int .i64 (T0 : Int)] 31 (0, 0)) := heap_alloc_new w _
  have HB0 := Lib.hid (And.intro ((Below.refl w.heap.size w).alloc (Nat.le_refl _) (.cells #[.int .i64 (N0 : Int), .int .u64 (V0 : Int), .int .i64 (L0 : Int), .int .i64 (T0 : Int)] 31 (0, 0))) hbox0)
  clear hl hT hs0 hbox0
  go_enter Tryd.func5, Tryd.ntmps5
  go_wp2_with fail
  refine (works_any _ (HTT.out _ HB0.out.1)).mono ?_
  rintro e w1 ⟨rfl, hb1⟩
  have HB1 := Lib.hid (show Below w.heap.size w w1 from HB0.out.1.trans (hb1.mono (by simp)))
  have hbox1 := (hb1.block w.heap.size (by simp)).trans HB0.out.2
  have HBX := Lib.hid hbox1
  have HZ1 := Lib.hid (show w.heap.size < w1.heap.size by have := hb1.size; simp at this; omega)
  clear hb1 hbox1 HB0
  go_wp2_with fail
  refine (newWriter_any _).mono ?_
  rintro e w2 ⟨rfl, hw2, hb2, hz2⟩
  have HB2 := Lib.hid (later HB1.out hb2)
  have hbox2 := (hb2.block w.heap.size HZ1.out).trans HBX.out
  have c0 : w2.cell? ⟨w.heap.size, 0, none⟩ = some (.int .i64 (N0 : Int)) := by rw [cell_of_row w2 _ _ _ _ _ hbox2]; rfl
  have c1 : w2.cell? ⟨w.heap.size, 1, none⟩ = some (.int .u64 (V0 : Int)) := by rw [cell_of_row w2 _ _ _ _ _ hbox2]; rfl
  have c2 : w2.cell? ⟨w.heap.size, 2, none⟩ = some (.int .i64 (L0 : Int)) := by rw [cell_of_row w2 _ _ _ _ _ hbox2]; rfl
  have c3 : w2.cell? ⟨w.heap.size, 3, none⟩ = some (.int .i64 (T0 : Int)) := by rw [cell_of_row w2 _ _ _ _ _ hbox2]; rfl
  have HW2 := Lib.hid (And.intro hw2 hbox2)
  clear hw2 hb2 hz2 hbox2 HBX
  by_cases n60 : 60 < n
  · go_wp2
    go_ret
    exact ⟨rfl, HB2.out⟩
  by_cases nbig : 1099511627776 < N0
  · go_wp2
    go_ret
    exact ⟨rfl, HB2.out⟩
  go_wp2_with fail
  refine (HV.out _).mono ?_
  rintro e w3 ⟨rfl, hb3⟩
  have HS0 := Lib.hid (show okV (N0, V0, L0, T0) ∧ N0 ≤ 1099511627776 from ⟨HX.out, by omega⟩)
  have HSM : Hid (SM w w.heap.size w1.heap.size w3 [] (N0, V0, L0, T0)) := Lib.hid (SM.below (⟨HB2.out, ⟨none, HW2.out.1, fun h e => by cases e⟩, HW2.out.2, Nat.le_refl _, HZ1.out⟩ : SM w w.heap.size w1.heap.size w2 [] (N0, V0, L0, T0)) hb3)
  clear hb3 HX HW2 HB2 HV c0 c1 c2 c3 nbig
  go_wp2_with fail
  go_loopw [7, 8, 9, 10] (fun v7 _ _ _ wr => ∃ (k : Nat) (s : Sv) (bs : List Bool), k ≤ n ∧ v7 = .int .i64 k ∧ okV s ∧ s.1 ≤ 1099511627776 + k ∧ bs.length ≤ 78 * k ∧ SM w w.heap.size w1.heap.size wr bs s) (fun v7 _ _ _ _ => n - (intOf v7).toNat)
  case atStart => exact ⟨0, (N0, V0, L0, T0), [], Nat.zero_le _, rfl, HS0.out.1, by have := HS0.out.2; show N0 ≤ _; omega, Nat.le_refl _, HSM.out⟩
  case round =>
    obtain ⟨k, s, bs, hk, rfl, hok, hsN, hbl, ho⟩ := hrel
    have hln := HL.out.len
    by_cases hlt : k < n
    · have hkl : k < l.length := by omega
      obtain ⟨b, o, rfl, hcs⟩ := u_cells HL.out.lies hkl
      have hvk : l[k] < 18446744073709551616 := HL.out.ok l[k] (List.getElem_mem hkl)
      generalize l[k] = t at *
      have HO := Lib.hid ho
      have HOK := Lib.hid (And.intro hok (And.intro hvk hcs))
      have i0 : (0 : Int) ≤ (k : Int) := by omega
      have i1 : (k : Int) < (n : Int) := by omega
      clear ho hln hcs hok hvk
      obtain ⟨N, V, L, T⟩ := s
      simp only [] at hsN
      go_wp2_with fail
      refine HO.out.len.mono ?_
      rintro e w' ⟨rfl, rfl⟩
      have HC := Lib.hid (fun W h => cost_any (N, V, L, T) t W HOK.out.1 HOK.out.2.1 h)
      have hpl := putV_len (N, V, L, T) t
      obtain ⟨z, hz⟩ : ∃ z, (putV (N, V, L, T) t).length = z := ⟨_, rfl⟩
      rw [hz] at HC hpl
      obtain ⟨q, hq⟩ : ∃ q, bs.length = q := ⟨_, rfl⟩
      rw [hq] at hbl ⊢
      have HZQ := Lib.hid (And.intro hz hq)
      clear hz hq
      have K := Lib.hid (fun (W W' : World) (h : SM w w.heap.size w1.heap.size W bs (N, V, L, T)) (hb' : Below W.heap.size W W') =>
        (⟨h.below hb', HOK.out.2.2 _ (h.below hb').bl, VaAt.c0 (h.below hb').box, VaAt.c1 (h.below hb').box, VaAt.c2 (h.below hb').box, VaAt.c3 (h.below hb').box⟩ :
          SM w w.heap.size w1.heap.size W' bs (N, V, L, T) ∧ W'.cell? ⟨b, o + k, none⟩ = some (.int .u64 (t : Int)) ∧ W'.cell? ⟨w.heap.size, 0, none⟩ = some (.int .i64 (N : Int)) ∧ W'.cell? ⟨w.heap.size, 1, none⟩ = some (.int .u64 (V : Int)) ∧ W'.cell? ⟨w.heap.size, 2, none⟩ = some (.int .i64 (L : Int)) ∧ W'.cell? ⟨w.heap.size, 3, none⟩ = some (.int .i64 (T : Int))))
      have hS0 := K.out _ _ HO.out (below_self_drew wr)
      go_wp2_with fail
      go_region_held3 (fun W : World => SM w w.heap.size w1.heap.size W bs (N, V, L, T) ∧ W.cell? ⟨b, o + k, none⟩ = some (.int .u64 (t : Int)) ∧ W.cell? ⟨w.heap.size, 0, none⟩ = some (.int .i64 (N : Int)) ∧ W.cell? ⟨w.heap.size, 1, none⟩ = some (.int .u64 (V : Int)) ∧ W.cell? ⟨w.heap.size, 2, none⟩ = some (.int .i64 (L : Int)) ∧ W.cell? ⟨w.heap.size, 3, none⟩ = some (.int .i64 (T : Int)))
        (first | exact hS0 | exact K.out _ _ (And.left (by assumption)) (by assumption))
        ((go_at_call 17; refine (HC.out _ (HTT.out _ (SM.bl (And.left (by assumption))))).mono ?_; rintro e w9 ⟨rfl, hb9⟩))
      rename_i hh
      obtain ⟨p9, d0, f0, f1, f2, f3⟩ := hh
      have HP9 := Lib.hid p9
      clear p9 hb9 hS0 K
      have hb2l : (bs ++ putV (N, V, L, T) t).length = q + z := by rw [List.length_append, HZQ.out.1, HZQ.out.2]
      have hok2 := okV_aft HOK.out.1 HOK.out.2.1
      have hN2 := aftV_N (N, V, L, T) t
      have hV2 := aftV_V (N, V, L, T) t
      have hag := putV_again (N, V, L, T) t
      have HPZ := Lib.hid (HP9.out.put_zero (by have := HZQ.out.2; omega) (N, V, L, T) t HOK.out.1 HOK.out.2.1 (by show N ≤ _; omega) (HTT.out _ (HP9.out.below ((Below.refl _ _).alloc (Nat.le_refl _) _)).drew.bl))
      have HPD := Lib.hid (HP9.out.drew.put (by have := HZQ.out.2; omega) (N, V, L, T) t HOK.out.1 HOK.out.2.1 (by show N ≤ _; omega) (HTT.out _ HP9.out.drew.bl))
      generalize aftV (N, V, L, T) t = s' at *
      obtain ⟨x, y, zz, u⟩ := s'
      obtain rfl : y = t := hV2
      obtain rfl : x = N + 1 := hN2
      generalize bs ++ putV (N, V, L, T) y = bs2 at *
      have HN2 := Lib.hid (And.intro hok2 (And.intro hag hb2l))
      simp only [] at HPZ HPD
      have K2 := Lib.hid (fun (W : World) (h : SM w w.heap.size w1.heap.size W bs (N, V, L, T) ∨ SM w w.heap.size w1.heap.size W bs2 (N, V, L, T)) =>
        have hx : VaAt W w.heap.size (N, V, L, T) ∧ Below w.heap.size w W := h.elim (fun h => ⟨h.box, h.bl⟩) (fun h => ⟨h.box, h.bl⟩)
        (⟨h, HOK.out.2.2 _ hx.2, VaAt.c0 hx.1, VaAt.c1 hx.1, VaAt.c2 hx.1, VaAt.c3 hx.1⟩ : (SM w w.heap.size w1.heap.size W bs (N, V, L, T) ∨ SM w w.heap.size w1.heap.size W bs2 (N, V, L, T)) ∧ W.cell? ⟨b, o + k, none⟩ = some (.int .u64 (y : Int)) ∧ W.cell? ⟨w.heap.size, 0, none⟩ = some (.int .i64 (N : Int)) ∧ W.cell? ⟨w.heap.size, 1, none⟩ = some (.int .u64 (V : Int)) ∧ W.cell? ⟨w.heap.size, 2, none⟩ = some (.int .i64 (L : Int)) ∧ W.cell? ⟨w.heap.size, 3, none⟩ = some (.int .i64 (T : Int))))
      have hS0 := K2.out _ (.inl HP9.out.drew)
      have K5 := Lib.hid (fun (ob : Obj) => K2.out (w9.alloc ob).drew (.inl (HP9.out.below (((Below.refl _ _).alloc (Nat.le_refl _) ob).trans ⟨rfl, rfl, rfl, Nat.le_refl _, fun _ _ => rfl⟩))))
      have K6 := Lib.hid (fun (W : World) (ob : Obj) (h : SM w w.heap.size w1.heap.size W bs2 (N, V, L, T)) => K2.out (W.alloc ob) (.inr (h.below ((Below.refl _ _).alloc (Nat.le_refl _) ob))))
      have K7 := Lib.hid (fun (W : World) (h : SM w w.heap.size w1.heap.size W bs2 (N, V, L, T)) => K2.out W (.inr h))
      have K4 := Lib.hid (fun (W : World) (a' b' c' d' : Value) (h : ∀ a b c d, SM w w.heap.size w1.heap.size (set4 W w9.heap.size a b c d) bs2 (N, V, L, T)) => K2.out (set4 W w9.heap.size a' b' c' d') (.inr (h a' b' c' d')))
      unfold set4 at K4
      have HPZ' : Hid _ := HPZ
      unfold Zero4 at HPZ'
      clear hok2 hag hb2l HC HPZ d0 f0 f1 f2 f3
      go_wp2_with fail
      go_region_held3 (fun W : World => (SM w w.heap.size w1.heap.size W bs (N, V, L, T) ∨ SM w w.heap.size w1.heap.size W bs2 (N, V, L, T)) ∧ W.cell? ⟨b, o + k, none⟩ = some (.int .u64 (y : Int)) ∧ W.cell? ⟨w.heap.size, 0, none⟩ = some (.int .i64 (N : Int)) ∧ W.cell? ⟨w.heap.size, 1, none⟩ = some (.int .u64 (V : Int)) ∧ W.cell? ⟨w.heap.size, 2, none⟩ = some (.int .i64 (L : Int)) ∧ W.cell? ⟨w.heap.size, 3, none⟩ = some (.int .i64 (T : Int)))
        (first | exact hS0 | exact K5.out _ | exact K4.out _ _ _ _ _ (by assumption) | exact K7.out _ (by assumption) | exact K6.out _ _ (by assumption))
        (first
          | (go_at_call 18; refine HPZ'.out.mono ?_; rintro e w5 ⟨rfl, p5, hz5, hs5, z0, z1, z2, z3, y0, y1, y2, y3⟩)
          | (go_at_call 18; refine HPD.out.mono ?_; rintro e w5 ⟨rfl, p5⟩))
      all_goals rename_i hh
      all_goals clear hh
      all_goals first
        | (have ht : VaAt ((((w5.setCell ⟨w9.heap.size, 0, none⟩ (.int .i64 ((N : Int) + 1))).setCell ⟨w9.heap.size, 1, none⟩ (.int .u64 (y : Int))).setCell ⟨w9.heap.size, 2, none⟩ (.int .i64 (zz : Int))).setCell ⟨w9.heap.size, 3, none⟩ (.int .i64 (u : Int))) w9.heap.size (N + 1, y, zz, u) := set4_row (s := (N + 1, y, zz, u)) hz5
           have hs : SM w w.heap.size w1.heap.size ((((w5.setCell ⟨w9.heap.size, 0, none⟩ (.int .i64 ((N : Int) + 1))).setCell ⟨w9.heap.size, 1, none⟩ (.int .u64 (y : Int))).setCell ⟨w9.heap.size, 2, none⟩ (.int .i64 (zz : Int))).setCell ⟨w9.heap.size, 3, none⟩ (.int .i64 (u : Int))) bs2 (N, V, L, T) := hs5 _ _ _ _
           generalize ((((w5.setCell ⟨w9.heap.size, 0, none⟩ (.int .i64 ((N : Int) + 1))).setCell ⟨w9.heap.size, 1, none⟩ (.int .u64 (y : Int))).setCell ⟨w9.heap.size, 2, none⟩ (.int .i64 (zz : Int))).setCell ⟨w9.heap.size, 3, none⟩ (.int .i64 (u : Int))) = wf at ht hs ⊢
           clear hz5 p5 z0 z1 z2 z3 y0 y1 y2 y3 hs5
           obtain ⟨tb, htb⟩ : ∃ tb, w9.heap.size = tb := ⟨_, rfl⟩
           rw [htb] at ht ⊢
           clear htb)
        | (have ht : VaAt (w5.alloc (.cells #[.int .i64 ((N : Int) + 1), .int .u64 (y : Int), .int .i64 (zz : Int), .int .i64 (u : Int)] 31 (0, 0))) w5.heap.size (N + 1, y, zz, u) := heap_alloc_new _ _
           have hs : SM w w.heap.size w1.heap.size (w5.alloc (.cells #[.int .i64 ((N : Int) + 1), .int .u64 (y : Int), .int .i64 (zz : Int), .int .i64 (u : Int)] 31 (0, 0))) bs2 (N, V, L, T) := p5.below ((Below.refl _ _).alloc (Nat.le_refl _) _)
           generalize (w5.alloc (.cells #[.int .i64 ((N : Int) + 1), .int .u64 (y : Int), .int .i64 (zz : Int), .int .i64 (u : Int)] 31 (0, 0))) = wf at ht hs ⊢
           clear p5
           obtain ⟨tb, htb⟩ : ∃ tb, w5.heap.size = tb := ⟨_, rfl⟩
           rw [htb] at ht ⊢
           clear htb)
      all_goals clear hS0 HPZ' HPD K2 K4 K5 K6 K7 HP9
      all_goals have K := Lib.hid (fun (W W' : World) (h : SM w w.heap.size w1.heap.size W bs2 (N, V, L, T) ∧ VaAt W tb (N + 1, y, zz, u)) (hb' : Below W.heap.size W W') =>
        (⟨⟨h.1.below hb', h.2.later hb'⟩, HOK.out.2.2 _ (h.1.below hb').bl, VaAt.c0 (h.1.below hb').box, by have := VaAt.c0 (h.2.later hb'); simpa using this, VaAt.c1 (h.2.later hb'), VaAt.c2 (h.2.later hb'), VaAt.c3 (h.2.later hb')⟩ :
          (SM w w.heap.size w1.heap.size W' bs2 (N, V, L, T) ∧ VaAt W' tb (N + 1, y, zz, u)) ∧ W'.cell? ⟨b, o + k, none⟩ = some (.int .u64 (y : Int)) ∧ W'.cell? ⟨w.heap.size, 0, none⟩ = some (.int .i64 (N : Int)) ∧ W'.cell? ⟨tb, 0, none⟩ = some (.int .i64 ((N : Int) + 1)) ∧ W'.cell? ⟨tb, 1, none⟩ = some (.int .u64 (y : Int)) ∧ W'.cell? ⟨tb, 2, none⟩ = some (.int .i64 (zz : Int)) ∧ W'.cell? ⟨tb, 3, none⟩ = some (.int .i64 (u : Int))))
      all_goals have hS0 := K.out _ _ ⟨hs, ht⟩ (below_self_drew _)
      all_goals have HVA := Lib.hid (fun W => valid_ok (N + 1, y, zz, u) W HN2.out.1)
      all_goals have HC := Lib.hid (fun W h => cost_any (N + 1, y, zz, u) y W HN2.out.1 HOK.out.2.1 h)
      all_goals rw [HN2.out.2.1] at HC
      all_goals have HLE := Lib.hid (fun W (h : SM w w.heap.size w1.heap.size W bs2 (N, V, L, T)) => h.len)
      all_goals rw [HN2.out.2.2] at HLE
      all_goals have h9 : ((q + z : Nat) : Int) - (q : Int) = (z : Int) := by omega
      all_goals simp only [] at HVA HC
      all_goals clear hs ht
      all_goals have e1 : IntKind.i64.wrap ((N : Int) + 1) = (N : Int) + 1 := IntWalk.i64_in _ (by omega)
      all_goals have e2 : IntKind.i64.wrap ((q : Int) + (z : Int) - (q : Int)) = (z : Int) := by rw [IntWalk.i64_in _ (by omega)]; omega
      all_goals have e3 : IntKind.i64.wrap (((q + z : Nat) : Int) - (q : Int)) = (z : Int) := by rw [IntWalk.i64_in _ (by omega)]; omega
      all_goals have e4 : decide ((z : Int) < 1) = false := decide_eq_false (by omega)
      all_goals have e5 : decide (78 < (z : Int)) = false := decide_eq_false (by omega)
      all_goals have e6 : ((N : Int) + 1 != (N : Int) + 1) = false := by simp
      all_goals have e7 : ((z : Int) != (z : Int)) = false := by simp
      all_goals have e8 : ((y : Int) != (y : Int)) = false := by simp
      all_goals go_wp2_with fail
      all_goals
        go_region_held3 (fun W : World => (SM w w.heap.size w1.heap.size W bs2 (N, V, L, T) ∧ VaAt W tb (N + 1, y, zz, u)) ∧ W.cell? ⟨b, o + k, none⟩ = some (.int .u64 (y : Int)) ∧ W.cell? ⟨w.heap.size, 0, none⟩ = some (.int .i64 (N : Int)) ∧ W.cell? ⟨tb, 0, none⟩ = some (.int .i64 ((N : Int) + 1)) ∧ W.cell? ⟨tb, 1, none⟩ = some (.int .u64 (y : Int)) ∧ W.cell? ⟨tb, 2, none⟩ = some (.int .i64 (zz : Int)) ∧ W.cell? ⟨tb, 3, none⟩ = some (.int .i64 (u : Int)))
          (first | exact hS0 | exact K.out _ _ (And.left (by assumption)) (Below.refl _ _) | exact K.out _ _ (And.left (by assumption)) (by assumption))
          (first
            | (go_at_call 15; refine (HVA.out _).mono ?_; rintro e w9 ⟨rfl, hb9⟩)
            | (go_at_call 16; refine (HLE.out _ (And.left (And.left (by assumption)))).mono ?_; rintro e w9 ⟨rfl, rfl⟩)
            | (go_at_call 17; refine (HC.out _ (HTT.out _ (SM.bl (And.left (And.left (by assumption)))))).mono ?_; rintro e w9 ⟨rfl, hb9⟩))
      all_goals rename_i hh
      all_goals obtain ⟨⟨hs, ht⟩, g0, g1, t0, t1, t2, t3⟩ := hh
      all_goals have hst := hs.box
      all_goals have HO4 := Lib.hid (hs.set (N + 1, y, zz, u))
      all_goals clear hS0 K HVA HC HLE hs ht g0 g1 e1 e2 e3 e4 e5 e6 e7 e8 h9
      all_goals go_wp2_with (refine wpList_store_row rfl 31 _ _ rfl w.heap.size #[.int .i64 ((N : Int) + 1), .int .u64 (y : Int), .int .i64 (zz : Int), .int .i64 (u : Int)] rfl rfl 31 _ hst info_va rfl (by simp [Value.oneCell']) ?_; clear hst)
      all_goals go_roundw
      all_goals first
        | exact ⟨k + 1, (N + 1, y, zz, u), bs2, by omega, by go_num, HN2.out.1, by show N + 1 ≤ _; omega, by rw [HN2.out.2.2]; omega, HO4.out⟩
        | (simp [intOf]; omega)
    · obtain rfl : k = n := by omega
      have HO := Lib.hid ho.bl
      clear ho hln
      go_wp2_with fail
      go_ret
      exact ⟨rfl, HO.out⟩
/-- The law, for any state. -/
theorem valueStays_all (N0 V0 L0 T0 : Int) (A : Option Addr) (n c : Nat) (l : List Nat) (w : World) (hV0 : 0 ≤ V0 ∧ V0 < 18446744073709551616) (hT0 : T0 ≤ 9223372036854775807) (hl : Comes w 1 encU okU A n c l) (hT : Tab w) :
    Calls Tryd.prog 5 #[.agg #[.int .i64 N0, .int .u64 V0, .int .i64 L0, .int .i64 T0], .slice A n c] w fun e w' => e = .returned (.bool true) ∧ Below w.heap.size w w' := by
  cases hv : validB N0 L0 T0 with
  | false => exact valueStays_bad N0 V0 L0 T0 A n c l w hV0 hT0 hv hl hT
  | true =>
    have hv' : 0 ≤ N0 ∧ 0 ≤ L0 ∧ 0 ≤ T0 ∧ ((L0 = 64 ∧ T0 = 0) ∨ (L0 < 64 ∧ T0 < 64 - L0)) := of_decide_eq_true hv
    have h := valueStays_good (N0.toNat, V0.toNat, L0.toNat, T0.toNat) A n c l w ⟨by show V0.toNat < _; omega, by show okW L0.toNat T0.toNat; unfold okW; omega⟩ hl hT
    simp only [] at h
    rw [Int.toNat_of_nonneg hv'.1, Int.toNat_of_nonneg hV0.1, Int.toNat_of_nonneg hv'.2.1, Int.toNat_of_nonneg hv'.2.2.1] at h
    exact h
end Go.Proofs.YtboomamnenonoaaDoor.VaW
