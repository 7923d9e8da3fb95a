/-
  truth.allowed: THE WALK.
-/
import Derived.Test.YtdjgndnllaingaaJ19
/-
  truth.allowed: THE WALK.
-/
namespace Go.Proofs.Ytdjgndnllaingaa.TrW
set_option linter.unusedVariables false
open Go.RowKit Go.Shelf LabM LbM LabW FrW TrM
/-- The two boxes of the call: a state, a sample. -/
structure ABox (w W : World) (A : Option Addr) (n c : Nat) (f T V : Int) : Prop where
  below : Below w.heap.size w W
  size : w.heap.size + 2 ≤ W.heap.size
  st : W.heap[w.heap.size]? = some (.cells #[.slice A n c, .int .i64 f] 28 (0, 0))
  sm : W.heap[w.heap.size + 1]? = some (.cells #[.int .i64 T, .int .u64 V] 51 (0, 0))
theorem ABox.later {w W W' : World} {A : Option Addr} {n c : Nat} {f T V : Int} (h : ABox w W A n c f T V) (hb : Below W.heap.size W W') : ABox w W' A n c f T V :=
  ⟨h.below.trans (hb.mono h.below.size), Nat.le_trans h.size hb.size, (hb.block _ (by have := h.size; omega)).trans h.st, (hb.block _ (by have := h.size; omega)).trans h.sm⟩
theorem ABox.new (w : World) (A : Option Addr) (n c : Nat) (f T V : Int) : ABox w ((w.alloc (.cells #[.slice A n c, .int .i64 f] 28 (0, 0))).alloc (.cells #[.int .i64 T, .int .u64 V] 51 (0, 0))) A n c f T V := by
  refine ⟨((Below.refl _ _).alloc (Nat.le_refl _) _).alloc (by simp) _, by simp, ?_, ?_⟩
  · exact (Below.heap_alloc _ _ _ (by simp)).trans (heap_alloc_new w _)
  · have h := heap_alloc_new (w.alloc (.cells #[.slice A n c, .int .i64 f] 28 (0, 0))) (.cells #[.int .i64 T, .int .u64 V] 51 (0, 0))
    rw [show (w.alloc (.cells #[.slice A n c, .int .i64 f] 28 (0, 0))).heap.size = w.heap.size + 1 by simp] at h
    exact h
theorem ABox.cells {w W : World} {A : Option Addr} {n c : Nat} {f T V : Int} (h : ABox w W A n c f T V) :
    W.cell? ⟨w.heap.size, 0, none⟩ = some (.slice A n c) ∧ W.cell? ⟨w.heap.size, 1, none⟩ = some (.int .i64 f) ∧ W.cell? ⟨w.heap.size + 1, 0, none⟩ = some (.int .i64 T) ∧ W.cell? ⟨w.heap.size + 1, 1, none⟩ = some (.int .u64 V) := by
  refine ⟨?_, ?_, ?_, ?_⟩
  · rw [cell_of_row _ _ _ _ _ _ h.st]; rfl
  · rw [cell_of_row _ _ _ _ _ _ h.st]; rfl
  · rw [cell_of_row _ _ _ _ _ _ h.sm]; rfl
  · rw [cell_of_row _ _ _ _ _ _ h.sm]; rfl
theorem long_fits {w : World} {A : Option Addr} {n c : Nat} {l : List Lab} (h : Comes w 2 encL okL A n c l) : longL l ≤ 9223372036854775807 := by
  have : ∀ l : List Lab, (∀ x ∈ l, okL x) → longL l ≤ 9223372036854775807 := by
    intro l
    induction l with
    | nil => intro _; exact Nat.zero_le _
    | cons x l ih =>
      intro h
      have h1 := h x List.mem_cons_self
      have h2 := ih (fun y hy => h y (List.mem_cons_of_mem _ hy))
      have h3 : x.1.size ≤ 9223372036854775807 := h1.1
      have h4 : x.2.size ≤ 9223372036854775807 := h1.2
      unfold longL
      omega
  exact this l h.ok
theorem findI_cases (s : List Ser) (l : List Lab) : (findI s l = -1 ∧ fnd s l = none) ∨ ∃ i : Nat, findI s l = (i : Int) ∧ fnd s l = some i ∧ i < s.length := by
  unfold findI
  cases h : fnd s l with
  | none => exact .inl ⟨rfl, rfl⟩
  | some i => exact .inr ⟨i, rfl, rfl, (fnd_some h).1⟩
/-- What allowed hands back. -/
def alV (p : Int × Bool) : Value := .tuple #[.int .i64 p.1, .bool p.2]
set_option maxRecDepth 20000 in
set_option maxHeartbeats 8000000 in
theorem allowed_any (A : Option Addr) (n c : Nat) (hs : List SerH) (f : Int) (A2 : Option Addr) (n2 c2 : Nat) (l : List Lab) (T V gen : Int) (w : World) (hl : Sers w A n c hs) (hn : n ≤ 1000) (hF : FewS hs) (hS : SmallS hs) (hl2 : Comes w 2 encL okL A2 n2 c2 l) (hf2 : fewB l = true) :
    Calls Try.prog 35 #[.agg #[.slice A n c, .int .i64 f], .slice A2 n2 c2, .agg #[.int .i64 T, .int .u64 V], .int .i64 gen] w fun e w' => e = .returned (alV (allowed (hs.map absR, f) l (T, V) gen)) ∧ Below w.heap.size w w' := by
  have HL := Lib.hid hl
  have hln := hl.row.len
  have hcap : c ≤ 9223372036854775807 := hl.row.cap
  have hle := hl.row.le
  have KC : Hid (∀ W, Below w.heap.size w W → Calls Try.prog 50 #[.slice A2 n2 c2] W fun e w' => e = .returned (.int .i64 (errN (checkB l) 2)) ∧ Below W.heap.size W w') := Lib.hid (fun W h => check_any A2 n2 c2 l W (hl2.later h))
  have KG : Hid (∀ W, Below w.heap.size w W → Calls Try.prog 42 #[.slice A2 n2 c2] W fun e w' => e = .returned (.int .i64 (longL l : Int)) ∧ Below W.heap.size W w') := Lib.hid (fun W h => longest_any A2 n2 c2 l W (hl2.later h))
  have KM : Hid (∀ W, Calls Try.prog 43 #[.int .i64 gen] W fun e w' => e = .returned (.int .i64 (limI gen)) ∧ Below W.heap.size W w') := Lib.hid (fun W => (limit_any gen W).mono (fun e w' h => ⟨h.1, by rw [h.2]; exact Below.refl _ _⟩))
  have KT : Hid (∀ W, Calls Try.prog 29 #[.int .i64 T] W fun e w' => e = .returned (.bool (timely T)) ∧ Below W.heap.size W w') := Lib.hid (fun W => (timely_any T W).mono (fun e w' h => ⟨h.1, by rw [h.2]; exact Below.refl _ _⟩))
  have KF : Hid (∀ W, Below w.heap.size w W → Calls Try.prog 16 #[.agg #[.slice A n c, .int .i64 f], .slice A2 n2 c2] W fun e w' => e = .returned (.int .i64 (findI (hs.map absR) l)) ∧ Below W.heap.size W w') := Lib.hid (fun W h => find_any A n c hs f A2 n2 c2 l W (hl.later h) (by omega) hF (hl2.later h) hf2)
  have HD : Hid (allowed (hs.map absR, f) l (T, V) gen = (if checkB l = false then (2, false)
    else if limI gen < (longL l : Int) then (3, false)
    else if timely T = false then (1, false)
    else if T < f then (6, false)
    else match fnd (hs.map absR) l with
      | none => if 20 ≤ (hs.map absR).length then (7, false) else (0, false)
      | some i =>
        if T < (atS (hs.map absR) i).2.2 then (4, false)
        else if T = (atS (hs.map absR) i).2.2 then (if (T, V) ∈ (atS (hs.map absR) i).2.1 then (0, true) else (5, false))
        else if 200 ≤ (atS (hs.map absR) i).2.1.length then (7, false)
        else (0, false) : Int × Bool)) := Lib.hid rfl
  rw [List.length_map, hln] at HD
  have hlim : -10 ≤ limI gen ∧ limI gen ≤ 48 := by
    unfold limI
    repeat' split
    all_goals omega
  have hlong : (longL l : Int) ≤ 9223372036854775807 := by
    have h2 := long_fits hl2
    omega
  have HA0 := Lib.hid (ABox.new w A n c f T V)
  obtain ⟨W0, hW0⟩ : ∃ W0, (w.alloc (.cells #[.slice A n c, .int .i64 f] 28 (0, 0))).alloc (.cells #[.int .i64 T, .int .u64 V] 51 (0, 0)) = W0 := ⟨_, rfl⟩
  rw [hW0] at HA0
  clear hl hl2 hF hf2
  obtain ⟨AL, hAL⟩ : ∃ p, allowed (hs.map absR, f) l (T, V) gen = p := ⟨_, rfl⟩
  rw [hAL] at HD ⊢
  clear hAL
  generalize checkB l = ck at *
  generalize longL l = lg at *
  generalize limI gen = lm at *
  go_enter Try.func35, Try.ntmps35
  go_wp2_with fail
  refine (KC.out _ HA0.out.below).mono ?_
  rintro e w1 ⟨rfl, hb1⟩
  have HA := Lib.hid (HA0.out.later hb1)
  clear hb1 hW0 HA0
  cases ck with
  | false =>
    rw [if_pos rfl] at HD
    have h := HD.out
    subst h
    rw [errN_false]
    go_wp2_with fail
    exact bodyPost_ret (v := .tuple #[.int .i64 2, .bool false]) (by simp [results, Try.results35, go_sem]) rfl ⟨rfl, HA.out.below⟩
  | true =>
  rw [if_neg (by decide)] at HD
  rw [errN_true]
  go_wp2_with fail
  refine (KG.out _ HA.out.below).mono ?_
  rintro e w2 ⟨rfl, hb1⟩
  replace HA := Lib.hid (HA.out.later hb1)
  clear hb1
  go_wp2_with fail
  refine (KM.out _).mono ?_
  rintro e w3 ⟨rfl, hb1⟩
  replace HA := Lib.hid (HA.out.later hb1)
  clear hb1
  by_cases hlg : lm < (lg : Int)
  · rw [if_pos hlg] at HD
    have h := HD.out
    subst h
    go_wp2_with fail
    exact bodyPost_ret (v := .tuple #[.int .i64 3, .bool false]) (by simp [results, Try.results35, go_sem]) rfl ⟨rfl, HA.out.below⟩
  rw [if_neg hlg] at HD
  obtain ⟨d0, d1, s0, s1⟩ := HA.out.cells
  go_wp2_with fail
  refine (KT.out _).mono ?_
  rintro e w4 ⟨rfl, hb1⟩
  replace HA := Lib.hid (HA.out.later hb1)
  clear hb1 d0 d1 s0 s1
  obtain ⟨d0, d1, s0, s1⟩ := HA.out.cells
  by_cases hti : timely T = false
  · rw [if_pos hti] at HD
    have h := HD.out
    subst h
    rw [hti]
    go_wp2_with fail
    exact bodyPost_ret (v := .tuple #[.int .i64 1, .bool false]) (by simp [results, Try.results35, go_sem]) rfl ⟨rfl, HA.out.below⟩
  rw [if_neg hti] at HD
  rw [show timely T = true by simpa using hti]
  clear hti
  by_cases hfl : T < f
  · rw [if_pos hfl] at HD
    have h := HD.out
    subst h
    go_wp2_with fail
    exact bodyPost_ret (v := .tuple #[.int .i64 6, .bool false]) (by simp [results, Try.results35, go_sem]) rfl ⟨rfl, HA.out.below⟩
  rw [if_neg hfl] at HD
  go_wp2_with fail
  refine (KF.out _ HA.out.below).mono ?_
  rintro e w5 ⟨rfl, hb1⟩
  replace HA := Lib.hid (HA.out.later hb1)
  clear hb1 d0 d1 s0 s1
  obtain ⟨d0, d1, s0, s1⟩ := HA.out.cells
  rcases findI_cases (hs.map absR) l with ⟨e1, e2⟩ | ⟨i, e1, e2, hi⟩
  · rw [e1]
    rw [e2] at HD
    simp only [] at HD
    clear e1 e2
    by_cases hmany : 20 ≤ n
    · rw [if_pos hmany] at HD
      have h := HD.out
      subst h
      have hm2 : (n : Int) ≥ 20 := by omega
      go_wp2_with fail
      exact bodyPost_ret (v := .tuple #[.int .i64 7, .bool false]) (by simp [results, Try.results35, go_sem]) rfl ⟨rfl, HA.out.below⟩
    · rw [if_neg hmany] at HD
      have h := HD.out
      subst h
      have hm2 : ¬ (n : Int) ≥ 20 := by omega
      go_wp2_with fail
      exact bodyPost_ret (v := .tuple #[.int .i64 0, .bool false]) (by simp [results, Try.results35, go_sem]) rfl ⟨rfl, HA.out.below⟩
  · rw [e1]
    rw [e2] at HD
    simp only [] at HD
    clear e1 e2
    rw [List.length_map] at hi
    rw [atS_lt (by rw [List.length_map]; exact hi), List.getElem_map] at HD
    obtain ⟨b, o, rfl, -, hcs⟩ := HL.out.cells hi
    obtain ⟨hc0, hc1, hc2⟩ := hcs _ HA.out.below
    have hsam := (HL.out.ok _ (List.getElem_mem hi)).sam
    have hsm := hS _ (List.getElem_mem hi)
    have i0 : (0 : Int) ≤ (i : Int) := by omega
    have i1 : (i : Int) < (n : Int) := by omega
    have i2 : ¬ (i : Int) < 0 := by omega
    clear hcs
    generalize hs[i] = x at *
    obtain ⟨⟨⟨A1, n1, c1⟩, L⟩, ⟨⟨A3, n3, c3⟩, S⟩, T2⟩ := x
    unfold hdV at hc0 hc1
    unfold absR at HD
    simp only [] at hc0 hc1 hc2 hsam HD hsm
    have hsl := hsam.len
    have KS : Hid (∀ W, Below w.heap.size w W → Calls Try.prog 54 #[.slice A3 n3 c3, .agg #[.int .i64 T, .int .u64 V]] W fun e w' => e = .returned (.bool (decide ((T, V) ∈ S))) ∧ Below W.heap.size W w') := Lib.hid (fun W h => containsS_any A3 n3 c3 S (T, V) W (hsam.later h) (by omega))
    have hcap3 : c3 ≤ 9223372036854775807 := hsam.cap
    have hle3 := hsam.le
    rw [hsl] at HD
    clear hsam
    obtain ⟨W5, hW5⟩ : ∃ W5, w5.alloc (.cells #[.slice A1 n1 c1, .slice A3 n3 c3, .int .i64 T2] 48 (0, 0)) = W5 := ⟨_, rfl⟩
    have hA5 : ABox w W5 (some ⟨b, o, none⟩) n c f T V := by rw [← hW5]; exact HA.out.later ((Below.refl _ _).alloc (Nat.le_refl _) _)
    have hr5 : W5.heap[w5.heap.size]? = some (.cells #[.slice A1 n1 c1, .slice A3 n3 c3, .int .i64 T2] 48 (0, 0)) := by rw [← hW5]; exact heap_alloc_new w5 _
    obtain ⟨y0, y1, y2⟩ : W5.cell? ⟨w5.heap.size, 0, none⟩ = some (.slice A1 n1 c1) ∧ W5.cell? ⟨w5.heap.size, 1, none⟩ = some (.slice A3 n3 c3) ∧ W5.cell? ⟨w5.heap.size, 2, none⟩ = some (.int .i64 T2) := by
      refine ⟨?_, ?_, ?_⟩ <;> (rw [cell_of_row _ _ _ _ _ _ hr5]; rfl)
    obtain ⟨f0, f1, t0, t1⟩ := hA5.cells
    have HA5 := Lib.hid hA5
    have HR5 := Lib.hid hr5
    clear hA5 hr5
    by_cases hlast : T < T2
    · rw [if_pos hlast] at HD
      have h := HD.out
      subst h
      go_wp2_with fail
      exact bodyPost_ret (v := .tuple #[.int .i64 4, .bool false]) (by simp [results, Try.results35, go_sem]) rfl ⟨rfl, HA5.out.below⟩
    rw [if_neg hlast] at HD
    by_cases heq : T = T2
    · rw [if_pos heq] at HD
      subst heq
      go_wp2_with fail
      refine (KS.out _ HA5.out.below).mono ?_
      rintro e w6 ⟨rfl, hb1⟩
      replace HR5 := Lib.hid ((hb1.block _ (Array.getElem?_eq_some_iff.1 HR5.out).1).trans HR5.out)
      replace HA5 := Lib.hid (HA5.out.later hb1)
      clear hb1 d0 d1 s0 s1 f0 f1 t0 t1 y0 y1 y2 hW5 hc0 hc1 hc2
      have y2 : w6.cell? ⟨w5.heap.size, 2, none⟩ = some (.int .i64 T) := by rw [cell_of_row _ _ _ _ _ _ HR5.out]; rfl
      obtain ⟨f0, f1, t0, t1⟩ := HA5.out.cells
      by_cases hmem : (T, V) ∈ S
      · rw [if_pos hmem] at HD
        rw [decide_eq_true hmem]
        have h := HD.out
        subst h
        clear hmem
        go_wp2_with fail
        exact bodyPost_ret (v := .tuple #[.int .i64 0, .bool true]) (by simp [results, Try.results35, go_sem]) rfl ⟨rfl, HA5.out.below⟩
      · rw [if_neg hmem] at HD
        rw [decide_eq_false hmem]
        have h := HD.out
        subst h
        clear hmem
        go_wp2_with fail
        exact bodyPost_ret (v := .tuple #[.int .i64 5, .bool false]) (by simp [results, Try.results35, go_sem]) rfl ⟨rfl, HA5.out.below⟩
    · rw [if_neg heq] at HD
      by_cases hmany : 200 ≤ n3
      · rw [if_pos hmany] at HD
        have h := HD.out
        subst h
        have hm2 : (n3 : Int) ≥ 200 := by omega
        go_wp2_with fail
        exact bodyPost_ret (v := .tuple #[.int .i64 7, .bool false]) (by simp [results, Try.results35, go_sem]) rfl ⟨rfl, HA5.out.below⟩
      · rw [if_neg hmany] at HD
        have h := HD.out
        subst h
        have hm2 : ¬ (n3 : Int) ≥ 200 := by omega
        go_wp2_with fail
        exact bodyPost_ret (v := .tuple #[.int .i64 0, .bool false]) (by simp [results, Try.results35, go_sem]) rfl ⟨rfl, HA5.out.below⟩
end Go.Proofs.Ytdjgndnllaingaa.TrW
