/-
  truth.Apply: THE WALK.
-/
import Derived.Test.YtdjgndnllaingaaJ26
import Derived.Deep.RegionLaw
/-
  truth.Apply: THE WALK.
-/
namespace Go.Proofs.Ytdjgndnllaingaa.TrW
set_option linter.unusedVariables false
open Go.RowKit Go.Shelf LabM LbM LabW FrW TrM
/-- The boxes of Apply: a state, a change, the state that is handed back. -/
structure AB (w W : World) (A : Option Addr) (n c : Nat) (f kd : Int) (A2 : Option Addr) (n2 c2 : Nat) (T O V : Int) : Prop where
  below : Below w.heap.size w W
  size : w.heap.size + 3 ≤ W.heap.size
  st : W.heap[w.heap.size]? = some (.cells #[.slice A n c, .int .i64 f] 28 (0, 0))
  rc : W.heap[w.heap.size + 1]? = some (.cells #[.int .i64 kd, .slice A2 n2 c2, .int .i64 T, .int .i64 O, .int .u64 V] 64 (0, 0))
  res : W.heap[w.heap.size + 2]? = some (.cells #[.slice none 0 0, .int .i64 0] 28 (0, 0))
section
variable {w W W' : World} {A : Option Addr} {n c : Nat} {f kd : Int} {A2 : Option Addr} {n2 c2 : Nat} {T O V : Int}
theorem AB.later (h : AB w W A n c f kd A2 n2 c2 T O V) (hb : Below W.heap.size W W') : AB w W' A n c f kd A2 n2 c2 T O V :=
  ⟨h.below.trans (hb.mono h.below.size), Nat.le_trans h.size hb.size, (hb.block _ (by have := h.size; omega)).trans h.st, (hb.block _ (by have := h.size; omega)).trans h.rc, (hb.block _ (by have := h.size; omega)).trans h.res⟩
theorem AB.new (w : World) (A : Option Addr) (n c : Nat) (f kd : Int) (A2 : Option Addr) (n2 c2 : Nat) (T O V : Int) : AB w (((w.alloc (.cells #[.slice A n c, .int .i64 f] 28 (0, 0))).alloc (.cells #[.int .i64 kd, .slice A2 n2 c2, .int .i64 T, .int .i64 O, .int .u64 V] 64 (0, 0))).alloc (.cells #[.slice none 0 0, .int .i64 0] 28 (0, 0))) A n c f kd A2 n2 c2 T O V := by
  obtain ⟨Wa, hWa⟩ : ∃ Wa, w.alloc (.cells #[.slice A n c, .int .i64 f] 28 (0, 0)) = Wa := ⟨_, rfl⟩
  obtain ⟨Wb, hWb⟩ : ∃ Wb, Wa.alloc (.cells #[.int .i64 kd, .slice A2 n2 c2, .int .i64 T, .int .i64 O, .int .u64 V] 64 (0, 0)) = Wb := ⟨_, rfl⟩
  have za : Wa.heap.size = w.heap.size + 1 := by rw [← hWa]; simp
  have zb : Wb.heap.size = w.heap.size + 2 := by rw [← hWb]; simp [za]
  have ba : Below w.heap.size w Wa := by rw [← hWa]; exact (Below.refl _ _).alloc (Nat.le_refl _) _
  have bb : Below w.heap.size w Wb := by rw [← hWb]; exact ba.alloc ba.size _
  have ra : Wa.heap[w.heap.size]? = some (.cells #[.slice A n c, .int .i64 f] 28 (0, 0)) := by rw [← hWa]; exact heap_alloc_new w _
  have rb : Wb.heap[w.heap.size + 1]? = some (.cells #[.int .i64 kd, .slice A2 n2 c2, .int .i64 T, .int .i64 O, .int .u64 V] 64 (0, 0)) := by rw [← hWb, ← za]; exact heap_alloc_new Wa _
  have rb' : Wb.heap[w.heap.size]? = some (.cells #[.slice A n c, .int .i64 f] 28 (0, 0)) := by rw [← hWb]; exact (Below.heap_alloc _ _ _ (by omega)).trans ra
  have rc := heap_alloc_new Wb (.cells #[.slice none 0 0, .int .i64 0] 28 (0, 0))
  rw [zb] at rc
  rw [hWa, hWb]
  exact ⟨bb.alloc bb.size _, by simp [zb], (Below.heap_alloc _ _ _ (by omega)).trans rb', (Below.heap_alloc _ _ _ (by omega)).trans rb, rc⟩
theorem AB.cells (h : AB w W A n c f kd A2 n2 c2 T O V) :
    (W.cell? ⟨w.heap.size, 0, none⟩ = some (.slice A n c) ∧ W.cell? ⟨w.heap.size, 1, none⟩ = some (.int .i64 f)) ∧ W.cell? ⟨w.heap.size + 1, 0, none⟩ = some (.int .i64 kd) ∧ W.cell? ⟨w.heap.size + 1, 1, none⟩ = some (.slice A2 n2 c2) ∧ W.cell? ⟨w.heap.size + 1, 2, none⟩ = some (.int .i64 T) ∧ W.cell? ⟨w.heap.size + 1, 3, none⟩ = some (.int .i64 O) ∧ W.cell? ⟨w.heap.size + 1, 4, none⟩ = some (.int .u64 V) := by
  refine ⟨⟨?_, ?_⟩, ?_, ?_, ?_, ?_, ?_⟩
  · rw [cell_of_row _ _ _ _ _ _ h.st]; rfl
  · rw [cell_of_row _ _ _ _ _ _ h.st]; rfl
  · rw [cell_of_row _ _ _ _ _ _ h.rc]; rfl
  · rw [cell_of_row _ _ _ _ _ _ h.rc]; rfl
  · rw [cell_of_row _ _ _ _ _ _ h.rc]; rfl
  · rw [cell_of_row _ _ _ _ _ _ h.rc]; rfl
  · rw [cell_of_row _ _ _ _ _ _ h.rc]; rfl
/-- What is handed back, in its cell. -/
theorem AB.done (h : AB w W A n c f kd A2 n2 c2 T O V) (A' : Option Addr) (n' c' : Nat) (f' : Int) (F : List SerH) (hF : Sers W A' n' c' F) :
    ((W.setRow (w.heap.size + 2) #[.slice A' n' c', .int .i64 f']).cell? ⟨w.heap.size + 2, 0, none⟩ = some (.slice A' n' c') ∧ (W.setRow (w.heap.size + 2) #[.slice A' n' c', .int .i64 f']).cell? ⟨w.heap.size + 2, 1, none⟩ = some (.int .i64 f')) ∧
    Sers (W.setRow (w.heap.size + 2) #[.slice A' n' c', .int .i64 f']) A' n' c' F ∧ Below w.heap.size w (W.setRow (w.heap.size + 2) #[.slice A' n' c', .int .i64 f']) := by
  have hr := setRow_heap W (w.heap.size + 2) _ #[.slice A' n' c', .int .i64 f'] 28 (0, 0) h.res
  refine ⟨⟨by rw [cell_of_row _ _ _ _ _ _ hr]; rfl, by rw [cell_of_row _ _ _ _ _ _ hr]; rfl⟩, ?_, below_setRow h.below (by omega) _⟩
  exact hF.off h.res (alien_state none 0 0 0) (fun j hj => setRow_other W _ j _ hj) (by simp)
end
/-- What Apply hands back. -/
def ApA (s : St) (r : Rec) (w : World) (e : Ending) (w' : World) : Prop := ∃ A' n' c' F, e = .returned (.tuple #[.agg #[.slice A' n' c', .int .i64 (applyM s r).1.2], .int .i64 (applyM s r).2]) ∧ Sers w' A' n' c' F ∧ F.map absR = (applyM s r).1.1 ∧ Below w.heap.size w w'
set_option maxRecDepth 20000 in
set_option maxHeartbeats 8000000 in
theorem apply_else (A : Option Addr) (n c : Nat) (hs : List SerH) (f kd : Int) (A2 : Option Addr) (n2 c2 : Nat) (l : List Lab) (T O V : Int) (w : World) (hl : Sers w A n c hs) (hn : n ≤ 900) (hF : FewS hs) (hS : SmallS hs) (hl2 : Comes w 2 encL okL A2 n2 c2 l) (hf2 : fewB l = true) (hT : -9223372036854775808 ≤ T ∧ T ≤ 9223372036854775807) (hV : 0 ≤ V ∧ V < 18446744073709551616) (h0 : ¬ kd = 0) (h1 : ¬ kd = 1) (h2 : ¬ kd = 2) :
    Calls Try.prog 19 #[.agg #[.slice A n c, .int .i64 f], .agg #[.int .i64 kd, .slice A2 n2 c2, .int .i64 T, .int .i64 O, .int .u64 V]] w (ApA (hs.map absR, f) (kd, l, T, O, V) w) := by
  have HL := Lib.hid hl
  have hln := hl.row.len
  have hcap : c ≤ 9223372036854775807 := hl.row.cap
  have hle := hl.row.le
  have HA0 := Lib.hid (AB.new w A n c f kd A2 n2 c2 T O V)
  obtain ⟨Wa, hWa⟩ : ∃ Wa, w.alloc (.cells #[.slice A n c, .int .i64 f] 28 (0, 0)) = Wa := ⟨_, rfl⟩
  obtain ⟨Wb, hWb⟩ : ∃ Wb, Wa.alloc (.cells #[.int .i64 kd, .slice A2 n2 c2, .int .i64 T, .int .i64 O, .int .u64 V] 64 (0, 0)) = Wb := ⟨_, rfl⟩
  obtain ⟨W0, hW0⟩ : ∃ W0, Wb.alloc (.cells #[.slice none 0 0, .int .i64 0] 28 (0, 0)) = W0 := ⟨_, rfl⟩
  rw [hWa, hWb, hW0] at HA0
  have za : Wa.heap.size = w.heap.size + 1 := by rw [← hWa]; simp
  have zb : Wb.heap.size = w.heap.size + 2 := by rw [← hWb]; simp [za]
  obtain ⟨⟨x0, x1⟩, y0, y1, y2, y3, y4⟩ := HA0.out.cells
  have HAP : Hid (applyM (hs.map absR, f) (kd, l, T, O, V) = ((hs.map absR, f), 9)) := Lib.hid (by unfold applyM; simp only []; rw [if_neg h0, if_neg h1, if_neg h2])
  clear hl hl2 hF hS
  go_enter Try.func19, Try.ntmps19
  go_wp2_with (refine wpList_store_row rfl 28 _ _ rfl (w.heap.size + 2) #[.slice A n c, .int .i64 f] rfl rfl 28 _ HA0.out.res info_S rfl (by simp [Value.oneCell']) ?_)
  obtain ⟨⟨r0, r1⟩, hz1, hz2⟩ := HA0.out.done A n c f hs (HL.out.later HA0.out.below)
  exact bodyPost_ret (v := .tuple #[.agg #[.slice A n c, .int .i64 f], .int .i64 9]) (by simp [results, Try.results19, go_sem, r0, r1]) rfl ⟨A, n, c, hs, by rw [HAP.out], hz1, by rw [HAP.out], hz2⟩
set_option maxRecDepth 20000 in
set_option maxHeartbeats 8000000 in
theorem apply_2 (A : Option Addr) (n c : Nat) (hs : List SerH) (f : Int) (A2 : Option Addr) (n2 c2 : Nat) (l : List Lab) (T O V : Int) (w : World) (hl : Sers w A n c hs) (hn : n ≤ 900) (hF : FewS hs) (hS : SmallS hs) (hl2 : Comes w 2 encL okL A2 n2 c2 l) (hf2 : fewB l = true) (hT : -9223372036854775808 ≤ T ∧ T ≤ 9223372036854775807) (hV : 0 ≤ V ∧ V < 18446744073709551616) :
    Calls Try.prog 19 #[.agg #[.slice A n c, .int .i64 f], .agg #[.int .i64 2, .slice A2 n2 c2, .int .i64 T, .int .i64 O, .int .u64 V]] w (ApA (hs.map absR, f) (2, l, T, O, V) w) := by
  have HL := Lib.hid hl
  have hln := hl.row.len
  have hcap : c ≤ 9223372036854775807 := hl.row.cap
  have hle := hl.row.le
  have HA0 := Lib.hid (AB.new w A n c f 2 A2 n2 c2 T O V)
  obtain ⟨Wa, hWa⟩ : ∃ Wa, w.alloc (.cells #[.slice A n c, .int .i64 f] 28 (0, 0)) = Wa := ⟨_, rfl⟩
  obtain ⟨Wb, hWb⟩ : ∃ Wb, Wa.alloc (.cells #[.int .i64 2, .slice A2 n2 c2, .int .i64 T, .int .i64 O, .int .u64 V] 64 (0, 0)) = Wb := ⟨_, rfl⟩
  obtain ⟨W0, hW0⟩ : ∃ W0, Wb.alloc (.cells #[.slice none 0 0, .int .i64 0] 28 (0, 0)) = W0 := ⟨_, rfl⟩
  rw [hWa, hWb, hW0] at HA0
  have za : Wa.heap.size = w.heap.size + 1 := by rw [← hWa]; simp
  have zb : Wb.heap.size = w.heap.size + 2 := by rw [← hWb]; simp [za]
  obtain ⟨⟨x0, x1⟩, y0, y1, y2, y3, y4⟩ := HA0.out.cells
  have KT : Hid (∀ W, Calls Try.prog 29 #[.int .i64 T] W fun e w' => e = .returned (.bool (timely T)) ∧ W = w') := Lib.hid (fun W => timely_any T W)
  have KF : Hid (∀ W, Below w.heap.size w W → Calls Try.prog 39 #[.agg #[.slice A n c, .int .i64 f], .int .i64 T] W fun e w' => ∃ A' n' c' F, e = .returned (.agg #[.slice A' n' c', .int .i64 T]) ∧ Sers w' A' n' c' F ∧ F.map absR = (fromM (hs.map absR, f) T).1 ∧ Below W.heap.size W w') := Lib.hid (fun W h => from_any A n c hs f T W (hl.later h) (by omega) hS)
  have HAP : Hid (applyM (hs.map absR, f) (2, l, T, O, V) = (if timely T = false ∨ T ≤ f then ((hs.map absR, f), 9) else (fromM (hs.map absR, f) T, 0))) := Lib.hid rfl
  clear hl hl2 hF hS
  go_enter Try.func19, Try.ntmps19
  go_wp2_with fail
  refine (KT.out _).mono ?_
  rintro e w1 ⟨rfl, rfl⟩
  cases hti : timely T with
  | false =>
    rw [if_pos (.inl hti)] at HAP
    clear KF hti
    go_wp2_with (refine wpList_store_row rfl 28 _ _ rfl (w.heap.size + 2) #[.slice A n c, .int .i64 f] rfl rfl 28 _ HA0.out.res info_S rfl (by simp [Value.oneCell']) ?_)
    obtain ⟨⟨r0, r1⟩, hz1, hz2⟩ := HA0.out.done A n c f hs (HL.out.later HA0.out.below)
    exact bodyPost_ret (v := .tuple #[.agg #[.slice A n c, .int .i64 f], .int .i64 9]) (by simp [results, Try.results19, go_sem, r0, r1]) rfl ⟨A, n, c, hs, by rw [HAP.out], hz1, by rw [HAP.out], hz2⟩
  | true =>
    by_cases hle2 : T ≤ f
    · rw [if_pos (.inr hle2)] at HAP
      clear KF hti
      go_wp2_with (refine wpList_store_row rfl 28 _ _ rfl (w.heap.size + 2) #[.slice A n c, .int .i64 f] rfl rfl 28 _ HA0.out.res info_S rfl (by simp [Value.oneCell']) ?_)
      obtain ⟨⟨r0, r1⟩, hz1, hz2⟩ := HA0.out.done A n c f hs (HL.out.later HA0.out.below)
      exact bodyPost_ret (v := .tuple #[.agg #[.slice A n c, .int .i64 f], .int .i64 9]) (by simp [results, Try.results19, go_sem, r0, r1]) rfl ⟨A, n, c, hs, by rw [HAP.out], hz1, by rw [HAP.out], hz2⟩
    · rw [if_neg (by rw [hti]; simpa using hle2)] at HAP
      clear hti
      go_wp2_with fail
      refine (KF.out _ HA0.out.below).mono ?_
      rintro e w2 ⟨A', n', c', F, rfl, hS', hm, hb⟩
      have HA := Lib.hid (HA0.out.later hb)
      have HR := Lib.hid (And.intro hS' hm)
      clear hb hS' hm
      go_wp2_with (refine wpList_store_row rfl 28 _ _ rfl (w.heap.size + 2) #[.slice A' n' c', .int .i64 T] rfl rfl 28 _ HA.out.res info_S rfl (by simp [Value.oneCell']) ?_)
      obtain ⟨⟨r0, r1⟩, hz1, hz2⟩ := HA.out.done A' n' c' T F HR.out.1
      exact bodyPost_ret (v := .tuple #[.agg #[.slice A' n' c', .int .i64 T], .int .i64 0]) (by simp [results, Try.results19, go_sem, r0, r1]) rfl ⟨A', n', c', F, by rw [HAP.out]; rfl, hz1, by rw [HAP.out]; exact HR.out.2, hz2⟩
set_option maxRecDepth 20000 in
set_option maxHeartbeats 8000000 in
theorem apply_0 (A : Option Addr) (n c : Nat) (hs : List SerH) (f : Int) (A2 : Option Addr) (n2 c2 : Nat) (l : List Lab) (T O V : Int) (w : World) (hl : Sers w A n c hs) (hn : n ≤ 900) (hF : FewS hs) (hS : SmallS hs) (hl2 : Comes w 2 encL okL A2 n2 c2 l) (hf2 : fewB l = true) (hT : -9223372036854775808 ≤ T ∧ T ≤ 9223372036854775807) (hV : 0 ≤ V ∧ V < 18446744073709551616) :
    Calls Try.prog 19 #[.agg #[.slice A n c, .int .i64 f], .agg #[.int .i64 0, .slice A2 n2 c2, .int .i64 T, .int .i64 O, .int .u64 V]] w (ApA (hs.map absR, f) (0, l, T, O, V) w) := by
  have HL := Lib.hid hl
  have hln := hl.row.len
  have hcap : c ≤ 9223372036854775807 := hl.row.cap
  have hle := hl.row.le
  have HA0 := Lib.hid (AB.new w A n c f 0 A2 n2 c2 T O V)
  obtain ⟨Wa, hWa⟩ : ∃ Wa, w.alloc (.cells #[.slice A n c, .int .i64 f] 28 (0, 0)) = Wa := ⟨_, rfl⟩
  obtain ⟨Wb, hWb⟩ : ∃ Wb, Wa.alloc (.cells #[.int .i64 0, .slice A2 n2 c2, .int .i64 T, .int .i64 O, .int .u64 V] 64 (0, 0)) = Wb := ⟨_, rfl⟩
  obtain ⟨W0, hW0⟩ : ∃ W0, Wb.alloc (.cells #[.slice none 0 0, .int .i64 0] 28 (0, 0)) = W0 := ⟨_, rfl⟩
  rw [hWa, hWb, hW0] at HA0
  have za : Wa.heap.size = w.heap.size + 1 := by rw [← hWa]; simp
  have zb : Wb.heap.size = w.heap.size + 2 := by rw [← hWb]; simp [za]
  obtain ⟨⟨x0, x1⟩, y0, y1, y2, y3, y4⟩ := HA0.out.cells
  have KA : Hid (∀ W, Below w.heap.size w W → Calls Try.prog 35 #[.agg #[.slice A n c, .int .i64 f], .slice A2 n2 c2, .agg #[.int .i64 T, .int .u64 V], .int .i64 3] W fun e w' => e = .returned (alV (allowed (hs.map absR, f) l (T, V) 3)) ∧ Below W.heap.size W w') := Lib.hid (fun W h => allowed_any A n c hs f A2 n2 c2 l T V 3 W (hl.later h) (by omega) hF hS (hl2.later h) hf2)
  have KP : Hid (∀ W, Below w.heap.size w W → Calls Try.prog 36 #[.agg #[.slice A n c, .int .i64 f], .slice A2 n2 c2, .agg #[.int .i64 T, .int .u64 V]] W fun e w' => ∃ A' n' c' F, e = .returned (.agg #[.slice A' n' c', .int .i64 f]) ∧ Sers w' A' n' c' F ∧ F.map absR = (putM (hs.map absR, f) l (T, V)).1 ∧ Below W.heap.size W w') := Lib.hid (fun W h => put_any A n c hs f A2 n2 c2 l T V W (hl.later h) hn hF hS (hl2.later h) hf2 hT hV)
  have HAP : Hid (applyM (hs.map absR, f) (0, l, T, O, V) = (if (allowed (hs.map absR, f) l (T, V) 3).1 ≠ 0 ∨ (allowed (hs.map absR, f) l (T, V) 3).2 = true then ((hs.map absR, f), 9) else (putM (hs.map absR, f) l (T, V), 0))) := Lib.hid rfl
  have HPF : Hid ((putM (hs.map absR, f) l (T, V)).2 = f) := Lib.hid (by unfold putM; split <;> rfl)
  clear hl hl2 hF hS
  generalize allowed (hs.map absR, f) l (T, V) 3 = al at KA HAP
  obtain ⟨e1, there⟩ := al
  unfold alV at KA
  simp only [] at KA HAP
  obtain ⟨W1, hW1⟩ : ∃ W1, W0.alloc (.cells #[.int .i64 T, .int .u64 V] 51 (0, 0)) = W1 := ⟨_, rfl⟩
  have hbx : Below W0.heap.size W0 W1 := by rw [← hW1]; exact (Below.refl _ _).alloc (Nat.le_refl _) _
  have hbr : W1.heap[W0.heap.size]? = some (.cells #[.int .i64 T, .int .u64 V] 51 (0, 0)) := by rw [← hW1]; exact heap_alloc_new W0 _
  have HA1 := Lib.hid (HA0.out.later hbx)
  obtain ⟨⟨p0, p1⟩, q0, q1, q2, q3, q4⟩ := HA1.out.cells
  have s0 : W1.cell? ⟨W0.heap.size, 0, none⟩ = some (.int .i64 T) := by rw [cell_of_row _ _ _ _ _ _ hbr]; rfl
  have s1 : W1.cell? ⟨W0.heap.size, 1, none⟩ = some (.int .u64 V) := by rw [cell_of_row _ _ _ _ _ _ hbr]; rfl
  have HBR := Lib.hid hbr
  clear hbx hbr
  go_enter Try.func19, Try.ntmps19
  go_wp2_with fail
  refine (KA.out _ HA1.out.below).mono ?_
  rintro e w2 ⟨rfl, hb⟩
  have HA := Lib.hid (HA1.out.later hb)
  replace HBR := Lib.hid ((hb.block _ (Array.getElem?_eq_some_iff.1 HBR.out).1).trans HBR.out)
  clear hb x0 x1 y0 y1 y2 y3 y4 p0 p1 q0 q1 q2 q3 q4 s0 s1 hW0 hW1 hWa hWb za zb
  obtain ⟨⟨x0, x1⟩, y0, y1, y2, y3, y4⟩ := HA.out.cells
  have s0 : w2.cell? ⟨W0.heap.size, 0, none⟩ = some (.int .i64 T) := by rw [cell_of_row _ _ _ _ _ _ HBR.out]; rfl
  have s1 : w2.cell? ⟨W0.heap.size, 1, none⟩ = some (.int .u64 V) := by rw [cell_of_row _ _ _ _ _ _ HBR.out]; rfl
  by_cases he : e1 = 0
  · subst he
    cases there with
    | true =>
      rw [if_pos (.inr rfl)] at HAP
      clear KP
      go_wp2_with (refine wpList_store_row rfl 28 _ _ rfl (w.heap.size + 2) #[.slice A n c, .int .i64 f] rfl rfl 28 _ HA.out.res info_S rfl (by simp [Value.oneCell']) ?_)
      obtain ⟨⟨r0, r1⟩, hz1, hz2⟩ := HA.out.done A n c f hs (HL.out.later HA.out.below)
      exact bodyPost_ret (v := .tuple #[.agg #[.slice A n c, .int .i64 f], .int .i64 9]) (by simp [results, Try.results19, go_sem, r0, r1]) rfl ⟨A, n, c, hs, by rw [HAP.out], hz1, by rw [HAP.out], hz2⟩
    | false =>
      rw [if_neg (by simp)] at HAP
      go_wp2_with fail
      refine (KP.out _ HA.out.below).mono ?_
      rintro e w3 ⟨A', n', c', F, rfl, hS', hm, hb⟩
      replace HA := Lib.hid (HA.out.later hb)
      have HR := Lib.hid (And.intro hS' hm)
      clear hb hS' hm x0 x1 y0 y1 y2 y3 y4 s0 s1
      go_wp2_with (refine wpList_store_row rfl 28 _ _ rfl (w.heap.size + 2) #[.slice A' n' c', .int .i64 f] rfl rfl 28 _ HA.out.res info_S rfl (by simp [Value.oneCell']) ?_)
      obtain ⟨⟨r0, r1⟩, hz1, hz2⟩ := HA.out.done A' n' c' f F HR.out.1
      exact bodyPost_ret (v := .tuple #[.agg #[.slice A' n' c', .int .i64 f], .int .i64 0]) (by simp [results, Try.results19, go_sem, r0, r1]) rfl ⟨A', n', c', F, by rw [HAP.out, HPF.out], hz1, by rw [HAP.out]; exact HR.out.2, hz2⟩
  · rw [if_pos (.inl he)] at HAP
    have hne : (e1 != 0) = true := by simpa using he
    clear KP
    go_wp2_with (refine wpList_store_row rfl 28 _ _ rfl (w.heap.size + 2) #[.slice A n c, .int .i64 f] rfl rfl 28 _ HA.out.res info_S rfl (by simp [Value.oneCell']) ?_)
    obtain ⟨⟨r0, r1⟩, hz1, hz2⟩ := HA.out.done A n c f hs (HL.out.later HA.out.below)
    exact bodyPost_ret (v := .tuple #[.agg #[.slice A n c, .int .i64 f], .int .i64 9]) (by simp [results, Try.results19, go_sem, r0, r1]) rfl ⟨A, n, c, hs, by rw [HAP.out], hz1, by rw [HAP.out], hz2⟩
end Go.Proofs.Ytdjgndnllaingaa.TrW
