/-
  truth.put: THE WALK, where a series is put behind all.
  truth.put: THE WALK, all ways.
  WHAT A STORE INTO A BOX LEAVES AS IT WAS: slices whose things cannot lie in it.
-/
import Derived.Test.YtdjgndnllaingaaJ23
import Derived.Deep.RegionLaw
import Derived.Test.YtdjgndnllaingaaJ24
import Derived.Test.YtdjgndnllaingaaJ25
import Derived.Test.YtdjgndnllaingaaJ21
/-
  truth.put: THE WALK, where a series is put behind all.
-/
namespace Go.Proofs.Ytdjgndnllaingaa.TrW
set_option linter.unusedVariables false
open Go.RowKit Go.Shelf LabM LbM LabW FrW TrM
set_option maxRecDepth 20000 in
set_option maxHeartbeats 16000000 in
theorem put_end (A : Option Addr) (n c : Nat) (hs : List SerH) (f : Int) (A2 : Option Addr) (n2 c2 : Nat) (l : List Lab) (T V : Int) (w : World) (hl : Sers w A n c hs) (hn : n ≤ 900) (hF : FewS hs) (hS : SmallS hs) (hl2 : Comes w 2 encL okL A2 n2 c2 l) (hf2 : fewB l = true) (hT : -9223372036854775808 ≤ T ∧ T ≤ 9223372036854775807) (hV : 0 ≤ V ∧ V < 18446744073709551616) (e1 : findI (hs.map absR) l = -1) (e2 : fnd (hs.map absR) l = none) (ep : fstI (fun x => !lessL x.1.2 l) hs = -1) (ep2 : place (hs.map absR) l = n) :
    Calls Try.prog 36 #[.agg #[.slice A n c, .int .i64 f], .slice A2 n2 c2, .agg #[.int .i64 T, .int .u64 V]] w fun e w' => ∃ A' n' c' F, e = .returned (.agg #[.slice A' n' c', .int .i64 f]) ∧ Sers w' A' n' c' F ∧ F.map absR = (putM (hs.map absR, f) l (T, V)).1 ∧ Below w.heap.size w w' := by
  have HL := Lib.hid hl
  have HL2 := Lib.hid hl2
  have hln := hl.row.len
  have hcap : c ≤ 9223372036854775807 := hl.row.cap
  have hle := hl.row.le
  have KF : Hid (∀ W, Below w.heap.size w W → Calls Try.prog 16 #[.agg #[.slice A n c, .int .i64 f], .slice A2 n2 c2] W fun e w' => e = .returned (.int .i64 (findI (hs.map absR) l)) ∧ Below W.heap.size W w') := Lib.hid (fun W h => find_any A n c hs f A2 n2 c2 l W (hl.later h) (by omega) hF (hl2.later h) hf2)
  have KC : Hid (∀ W, Below w.heap.size w W → Calls Try.prog 38 #[.slice A n c] W fun e w' => ∃ v, e = .returned v ∧ w'.ownsRow W.heap.size 48 3 v n (hs.flatMap encR) ∧ Below W.heap.size W w') := Lib.hid (fun W h => cloneR_any A n c hs W (hl.later h).row (by omega))
  have KI : Hid (∀ W g A' c', Sers W A' n c' hs → BoxL W g A2 n2 c2 → Comes W 2 encL okL A2 n2 c2 l → Calls Try.prog 32 #[.slice A' n c', .func (.func 55) #[] #[.pointer (some ⟨g, 0, none⟩)]] W fun e w' => e = .returned (.int .i64 (fstI (fun x => !lessL x.1.2 l) hs)) ∧ Below W.heap.size W w') := Lib.hid (fun W g A' c' hW hg hlW =>
    indexR_any 55 #[.pointer (some ⟨g, 0, none⟩)] (fun x => !lessL x.1.2 l) (enters_of Try.func55 (by kernel_rfl) rfl) A' n c' hs W hW (by omega)
      (fun x hx W2 hW2 => put1_any x g A2 n2 c2 l W2 (hg.later hW2) ((hW.ok x hx).later hW2) (hlW.later hW2) (hF x hx) hf2))
  have HSM := Lib.hid hS
  -- the boxes
  obtain ⟨Wa, hWa⟩ : ∃ Wa, w.alloc (.cells #[.slice A n c, .int .i64 f] 28 (0, 0)) = Wa := ⟨_, rfl⟩
  obtain ⟨Wb, hWb⟩ : ∃ Wb, Wa.alloc (.cells #[.slice A2 n2 c2] 35 (0, 0)) = Wb := ⟨_, rfl⟩
  obtain ⟨Wc, hWc⟩ : ∃ Wc, Wb.alloc (.cells #[.int .i64 T, .int .u64 V] 51 (0, 0)) = Wc := ⟨_, rfl⟩
  obtain ⟨W0, hW0⟩ : ∃ W0, Wc.alloc (.cells #[.slice none 0 0, .int .i64 0] 28 (0, 0)) = W0 := ⟨_, rfl⟩
  have za : Wa.heap.size = w.heap.size + 1 := by rw [← hWa]; simp
  have zb : Wb.heap.size = w.heap.size + 2 := by rw [← hWb]; simp [za]
  have zc : Wc.heap.size = w.heap.size + 3 := by rw [← hWc]; simp [zb]
  have z0 : W0.heap.size = w.heap.size + 4 := by rw [← hW0]; simp [zc]
  have ba : Below w.heap.size w Wa := by rw [← hWa]; exact (Below.refl _ _).alloc (Nat.le_refl _) _
  have bb : Below w.heap.size w Wb := by rw [← hWb]; exact ba.alloc ba.size _
  have bc : Below w.heap.size w Wc := by rw [← hWc]; exact bb.alloc bb.size _
  have b0 : Below w.heap.size w W0 := by rw [← hW0]; exact bc.alloc bc.size _
  have ra : Wa.heap[w.heap.size]? = some (.cells #[.slice A n c, .int .i64 f] 28 (0, 0)) := by rw [← hWa]; exact heap_alloc_new w _
  have rb : Wb.heap[w.heap.size + 1]? = some (.cells #[.slice A2 n2 c2] 35 (0, 0)) := by rw [← hWb, ← za]; exact heap_alloc_new Wa _
  have rc : Wc.heap[w.heap.size + 2]? = some (.cells #[.int .i64 T, .int .u64 V] 51 (0, 0)) := by rw [← hWc, ← zb]; exact heap_alloc_new Wb _
  have rd : W0.heap[w.heap.size + 3]? = some (.cells #[.slice none 0 0, .int .i64 0] 28 (0, 0)) := by rw [← hW0, ← zc]; exact heap_alloc_new Wc _
  have rb' : Wb.heap[w.heap.size]? = some (.cells #[.slice A n c, .int .i64 f] 28 (0, 0)) := by rw [← hWb]; exact (Below.heap_alloc _ _ _ (by omega)).trans ra
  have rc' : Wc.heap[w.heap.size]? = some (.cells #[.slice A n c, .int .i64 f] 28 (0, 0)) := by rw [← hWc]; exact (Below.heap_alloc _ _ _ (by omega)).trans rb'
  have r0 : W0.heap[w.heap.size]? = some (.cells #[.slice A n c, .int .i64 f] 28 (0, 0)) := by rw [← hW0]; exact (Below.heap_alloc _ _ _ (by omega)).trans rc'
  have rc'' : Wc.heap[w.heap.size + 1]? = some (.cells #[.slice A2 n2 c2] 35 (0, 0)) := by rw [← hWc]; exact (Below.heap_alloc _ _ _ (by omega)).trans rb
  have r1 : W0.heap[w.heap.size + 1]? = some (.cells #[.slice A2 n2 c2] 35 (0, 0)) := by rw [← hW0]; exact (Below.heap_alloc _ _ _ (by omega)).trans rc''
  have r2 : W0.heap[w.heap.size + 2]? = some (.cells #[.int .i64 T, .int .u64 V] 51 (0, 0)) := by rw [← hW0]; exact (Below.heap_alloc _ _ _ (by omega)).trans rc
  have HW0 := Lib.hid (And.intro b0 (And.intro z0 (And.intro r0 (And.intro r1 (And.intro r2 rd)))))
  obtain ⟨x0, x1⟩ : W0.cell? ⟨w.heap.size, 0, none⟩ = some (.slice A n c) ∧ W0.cell? ⟨w.heap.size, 1, none⟩ = some (.int .i64 f) := by
    refine ⟨?_, ?_⟩ <;> (rw [cell_of_row _ _ _ _ _ _ r0]; rfl)
  have x2 : W0.cell? ⟨w.heap.size + 1, 0, none⟩ = some (.slice A2 n2 c2) := by rw [cell_of_row _ _ _ _ _ _ r1]; rfl
  clear hl hl2 hF hS z0 ba bb bc b0 ra rb rc rd rb' rc' r0 rc'' r1 r2
  go_enter Try.func36, Try.ntmps36
  go_wp2_with fail
  refine (KF.out _ HW0.out.1).mono ?_
  rintro e w1 ⟨rfl, hb1⟩
  have hz1 : w.heap.size + 4 ≤ w1.heap.size := by rw [← HW0.out.2.1]; exact hb1.size
  have y0r := (hb1.block _ (by have := HW0.out.2.1; omega)).trans HW0.out.2.2.1
  have y0 : w1.cell? ⟨w.heap.size, 0, none⟩ = some (.slice A n c) := by rw [cell_of_row _ _ _ _ _ _ y0r]; rfl
  have HB1 := Lib.hid hb1
  clear hb1 y0r x0 x1 x2 za zb zc hWa hWb hWc hW0
  go_wp2_with fail
  refine (KC.out _ (later HW0.out.1 HB1.out)).mono ?_
  rintro e w2 ⟨v, rfl, hown, hb2⟩
  obtain ⟨A', c', rfl, -, hcv⟩ := Comes.of_own (okA := fun _ => True) hown encR_len (by decide) (fun _ _ => trivial)
  have hcap' : c' ≤ 9223372036854775807 := hcv.cap
  have hle' := hcv.le
  have hb02 := HB1.out.trans (hb2.mono HB1.out.size)
  have hlt : ∀ j, j < 4 → w.heap.size + j < W0.heap.size := fun j hj => by have := HW0.out.2.1; omega
  have q0 := (hb02.block w.heap.size (by have := hlt 0 (by omega); omega)).trans HW0.out.2.2.1
  have q1 := (hb02.block _ (hlt 1 (by omega))).trans HW0.out.2.2.2.1
  have q2 := (hb02.block _ (hlt 2 (by omega))).trans HW0.out.2.2.2.2.1
  have q3 := (hb02.block _ (hlt 3 (by omega))).trans HW0.out.2.2.2.2.2
  have g0 : w2.cell? ⟨w.heap.size, 0, none⟩ = some (.slice A n c) := by rw [cell_of_row _ _ _ _ _ _ q0]; rfl
  have gf : w2.frozen? ⟨w.heap.size, 0, none⟩ = false := frozen_of_row w2 _ 0 _ _ q0
  obtain ⟨w3, hw3⟩ : ∃ w3, w2.setCell ⟨w.heap.size, 0, none⟩ (.slice A' n c') = w3 := ⟨_, rfl⟩
  have ho3 : ∀ j, j ≠ w.heap.size → w3.heap[j]? = w2.heap[j]? := fun j hj => by rw [← hw3]; exact heap_setCell_other _ _ _ _ hj
  have p0 : w3.heap[w.heap.size]? = some (.cells #[.slice A' n c', .int .i64 f] 28 (0, 0)) := by rw [← hw3]; exact heap_setCell_same w2 _ 0 _ _ _ q0
  have p1 := (ho3 _ (by omega)).trans q1
  have p2 := (ho3 _ (by omega)).trans q2
  have p3 := (ho3 _ (by omega)).trans q3
  have hbw2 : Below w.heap.size w w2 := HW0.out.1.trans (hb02.mono HW0.out.1.size)
  have hbw3 : Below w.heap.size w w3 := by rw [← hw3]; exact hbw2.setCell (Nat.le_refl _) _
  have hown3 : w3.ownsRow (w.heap.size + 4) 48 3 (.slice A' n c') n (hs.flatMap encR) := own_same (hown.mono hz1) (fun j hj => ho3 j (by have := (own_lt' hown j hj).1; omega))
  have hz3 : w.heap.size + 4 ≤ w3.heap.size := by rw [← hw3]; simp; have := hb2.size; omega
  obtain ⟨s0, s1⟩ : w3.cell? ⟨w.heap.size, 0, none⟩ = some (.slice A' n c') ∧ w3.cell? ⟨w.heap.size, 1, none⟩ = some (.int .i64 f) := by
    refine ⟨?_, ?_⟩ <;> (rw [cell_of_row _ _ _ _ _ _ p0]; rfl)
  have s2 : w3.cell? ⟨w.heap.size + 1, 0, none⟩ = some (.slice A2 n2 c2) := by rw [cell_of_row _ _ _ _ _ _ p1]; rfl
  have H3 := Lib.hid (And.intro hbw3 (And.intro hz3 (And.intro p0 (And.intro p1 (And.intro p2 (And.intro p3 hown3))))))
  clear hown hb2 hcv hb02 hlt q0 q1 q2 q3 ho3 p0 p1 p2 p3 hbw2 hbw3 hown3 hz3 y0 KC KF hz1 HB1
  have hSr : Sers w3 A' n c' hs := ⟨(Comes.of_own (okA := fun _ => True) H3.out.2.2.2.2.2.2 encR_len (by decide) (fun _ _ => trivial)).elim (fun A0 h => h.elim (fun c0 h => by
    obtain ⟨hv, -, hc⟩ := h
    injection hv with q1 q2 q3
    subst q1 q3
    exact hc)), fun x hx => (HL.out.ok x hx).later H3.out.1⟩
  have KJ := Lib.hid (KI.out w3 (w.heap.size + 1) A' c' hSr s2 (HL2.out.later H3.out.1))
  rw [ep] at KJ
  clear KI hSr
  go_wp2_with fail
  refine KJ.out.mono ?_
  rintro e w4 ⟨rfl, hb4⟩
  have hlt : ∀ j, j < 4 → w.heap.size + j < w3.heap.size := fun j hj => by have := H3.out.2.1; omega
  have q0 := (hb4.block w.heap.size (by have := hlt 0 (by omega); omega)).trans H3.out.2.2.1
  have q1 := (hb4.block _ (hlt 1 (by omega))).trans H3.out.2.2.2.1
  have q2 := (hb4.block _ (hlt 2 (by omega))).trans H3.out.2.2.2.2.1
  have q3 := (hb4.block _ (hlt 3 (by omega))).trans H3.out.2.2.2.2.2.1
  have hown4 := own_later H3.out.2.2.2.2.2.2 hb4
  have hbw4 := later H3.out.1 hb4
  have hz4 : w.heap.size + 4 ≤ w4.heap.size := Nat.le_trans H3.out.2.1 hb4.size
  obtain ⟨s3, s4⟩ : w4.cell? ⟨w.heap.size, 0, none⟩ = some (.slice A' n c') ∧ w4.cell? ⟨w.heap.size, 1, none⟩ = some (.int .i64 f) := by
    refine ⟨?_, ?_⟩ <;> (rw [cell_of_row _ _ _ _ _ _ q0]; rfl)
  have s5 : w4.cell? ⟨w.heap.size + 1, 0, none⟩ = some (.slice A2 n2 c2) := by rw [cell_of_row _ _ _ _ _ _ q1]; rfl
  obtain ⟨w5, hw5⟩ : ∃ w5, w4.alloc (.cells #[.slice A2 n2 c2, .slice none 0 0, .int .i64 0] 48 (0, 0)) = w5 := ⟨_, rfl⟩
  have hb5 : Below w4.heap.size w4 w5 := by rw [← hw5]; exact (Below.refl _ _).alloc (Nat.le_refl _) _
  have hx5 : w5.heap[w4.heap.size]? = some (.cells #[.slice A2 n2 c2, .slice none 0 0, .int .i64 0] 48 (0, 0)) := by rw [← hw5]; exact heap_alloc_new w4 _
  obtain ⟨X, hX⟩ : ∃ X : SerH, (((A2, n2, c2), l), ((none, 0, 0), []), 0) = X := ⟨_, rfl⟩
  have KN := Lib.hid (insertR_any (w.heap.size + 4) (.slice A' n c') n hs X w4.heap.size n w5 (by omega) hln (by omega) (Nat.le_trans hz4 hb5.size) (own_later hown4 hb5) (by rw [← hX]; exact hx5) (fun e => by have := (own_lt' hown4 _ e).2; omega))
  have H4 := Lib.hid (And.intro hbw4 (And.intro hz4 (And.intro hb5 (And.intro q0 (And.intro q1 (And.intro q2 (And.intro q3 hown4)))))))
  have HX := Lib.hid hX
  clear hb4 q0 q1 q2 q3 hown4 hbw4 hz4 hb5 hx5 hX hlt s0 s1 s2 hw3 g0 gf
  go_wp2_with fail
  refine KN.out.mono ?_
  rintro e w6 ⟨v6, rfl, hown6, hg6⟩
  obtain ⟨gb, cp, rfl, hgb, hgb2⟩ := hown6.form (by omega)
  obtain ⟨hbw4, hz4, hb5, q0, q1, q2, q3, hown4⟩ := H4.out
  have hkp : ∀ j, j < w.heap.size + 4 → w6.heap[j]? = w4.heap[j]? := fun j hj => (hg6.block j (by have := hb5.size; omega) (fun e => by have := (own_lt' hown4 j e.symm).1; omega)).trans (hb5.block j (by omega))
  have r0 := (hkp w.heap.size (by omega)).trans q0
  have r2 := (hkp _ (by omega)).trans q2
  have r3 := (hkp _ (by omega)).trans q3
  have u0 : w6.cell? ⟨w.heap.size, 0, none⟩ = some (.slice A' n c') := by rw [cell_of_row _ _ _ _ _ _ r0]; rfl
  have uf : w6.frozen? ⟨w.heap.size, 0, none⟩ = false := frozen_of_row w6 _ 0 _ _ r0
  obtain ⟨w7, hw7⟩ : ∃ w7, w6.setCell ⟨w.heap.size, 0, none⟩ (.slice (some ⟨gb, 0, none⟩) (n + 1) cp) = w7 := ⟨_, rfl⟩
  have ho7 : ∀ j, j ≠ w.heap.size → w7.heap[j]? = w6.heap[j]? := fun j hj => by rw [← hw7]; exact heap_setCell_other _ _ _ _ hj
  have p0 : w7.heap[w.heap.size]? = some (.cells #[.slice (some ⟨gb, 0, none⟩) (n + 1) cp, .int .i64 f] 28 (0, 0)) := by rw [← hw7]; exact heap_setCell_same w6 _ 0 _ _ _ r0
  have hbw6 : Below w.heap.size w w6 := (hbw4.trans (hb5.mono hbw4.size)).grown hg6 (by have := hbw4.size; have := hb5.size; omega) (fun k hk => by have := (own_lt' hown4 k hk).1; omega)
  have hbw7 : Below w.heap.size w w7 := by rw [← hw7]; exact hbw6.setCell (Nat.le_refl _) _
  obtain ⟨hi2, hat⟩ := insF_at hs n (by omega) X
  have hil : (insF hs n X).length = n + 1 := by unfold insF; simp; omega
  have hPT : PT w w7 gb (n + 1) cp f T V (insF hs n X) := ⟨hbw7, p0, (ho7 _ (by omega)).trans r2, (ho7 _ (by omega)).trans r3, own_same hown6 (fun j hj => ho7 j (by have := (own_lt' hown6 j hj).1; omega)), (fun x hx => by
    unfold insF at hx
    rcases List.mem_append.1 hx with hx | hx
    · exact HL.out.ok x (List.mem_of_mem_take hx)
    · rcases List.mem_cons.1 hx with rfl | hx
      · rw [← HX.out]; exact ⟨HL2.out, Comes.nil _ _ _ _, ⟨(show (-9223372036854775808 : Int) ≤ 0 by omega), (show (0 : Int) ≤ 9223372036854775807 by omega)⟩⟩
      · exact HL.out.ok x (List.mem_of_mem_drop hx)), hil⟩
  have hX2 : X.2.1.2.length ≤ 1000 := by rw [← HX.out]; exact Nat.zero_le _
  have HT1 := Lib.hid (tail_a hPT hi2 hT hV (by rw [hat]; exact hX2))
  have HT2 := Lib.hid (tail_b hPT hi2 hT hV (by rw [hat]; exact hX2))
  have HFIN : Hid (∀ a, ((insF hs n X).set n (X.1, (a, X.2.1.2 ++ [(T, V)]), T)).map absR = (putM (hs.map absR, f) l (T, V)).1) := Lib.hid (fun a => by rw [← HX.out]; exact fin_none hs f l (T, V) n (by omega) A2 n2 c2 e2 ep2 a)
  rw [hat] at HT1 HT2
  have hcy : w7.cell? ⟨gb, n * 3 + 1, none⟩ = some (hdV X.2.1.1) := by
    rw [hPT.row.cellAt (n * 3 + 1) (by omega), flatMap_at encR_len (insF hs n X) n _ (List.getElem?_eq_getElem hi2) 1 (by omega), hat]; rfl
  have hi0 : (0 : Int) ≤ (n : Int) := by omega
  have hi1 : (n : Int) < ((n + 1 : Nat) : Int) := by omega
  have hi1b : (n : Int) < (n : Int) + 1 := by omega
  have t0 : w7.cell? ⟨w.heap.size, 0, none⟩ = some (.slice (some ⟨gb, 0, none⟩) (n + 1) cp) := by rw [cell_of_row _ _ _ _ _ _ p0]; rfl
  have HPT := Lib.hid hPT
  generalize insF hs n X = FF at *
  generalize X = y at *
  clear hbw4 hz4 hb5 q0 q1 q2 q3 hown4 hkp r0 r2 r3 ho7 p0 hbw6 hbw7 hown6 hg6 hat hX2 hPT
  go_wp2_with fail
  obtain ⟨⟨⟨A5, n5, c5⟩, L5⟩, ⟨⟨A6, n6, c6⟩, S6⟩, T6⟩ := y
  unfold hdV TailP at HT1 HT2
  unfold hdV at hcy
  simp only [] at HT1 HT2 hcy HFIN
  have hsr := HPT.out.sam
  obtain ⟨wx, hwx⟩ : ∃ wx, w7.alloc (.cells #[.int .i64 T, .int .u64 V] 51 (0, 0)) = wx := ⟨_, rfl⟩
  have hbx : Below w7.heap.size w7 wx := by rw [← hwx]; exact (Below.refl _ _).alloc (Nat.le_refl _) _
  have hcx : wx.cell? ⟨gb, n * 3 + 1, none⟩ = some (.slice A6 n6 c6) := (hbx.cell (p := ⟨gb, n * 3 + 1, none⟩) (World.block_lt_of_cell? _ _ hcy)).trans hcy
  have K := Lib.hid (fun (W' : World) (h : W'.heap[w.heap.size + 2]? = some (.cells #[.int .i64 T, .int .u64 V] 51 (0, 0))) => (⟨h, by rw [cell_of_row _ _ _ _ _ _ h]; rfl, by rw [cell_of_row _ _ _ _ _ _ h]; rfl⟩ : W'.heap[w.heap.size + 2]? = some (.cells #[.int .i64 T, .int .u64 V] 51 (0, 0)) ∧ W'.cell? ⟨w.heap.size + 2, 0, none⟩ = some (.int .i64 T) ∧ W'.cell? ⟨w.heap.size + 2, 1, none⟩ = some (.int .u64 V)))
  have K0 := K.out w7.drew hsr
  have KX := K.out wx.drew ((hbx.block _ (Array.getElem?_eq_some_iff.1 hsr).1).trans hsr)
  rw [hwx] at HT2
  clear hsr hbx
  have v0 := K0.2.1
  have v1 := K0.2.2
  change w7.cell? _ = _ at v0 v1
  go_region_law
    (first
    | (go_simp
       go_at_call 57
       (with_reducible refine HT1.out.mono ?_)
       rintro e wc ⟨v, a1, a2, a3, wcx, W2, w3', w4', w5', rfl, u0, u1, hwcx, hap, ⟨r1, r2⟩, ⟨t1, t1f⟩, hs3, ⟨t2, t3, t3f⟩, hs4, ⟨t4, t5, t6⟩, hs5, t7, t8⟩
       obtain ⟨-, k0, k1⟩ := K.out wc u0
       have HEND := Lib.hid (And.intro t6 (And.intro t7 (And.intro t8 hs5)))
       clear t6 t7 t8 hs5)
    | (go_simp
       go_at_call 57
       (with_reducible refine HT2.out.mono ?_)
       rintro e wc ⟨v, a1, a2, a3, W2, w3', w4', w5', rfl, u0, hap, ⟨r1, r2⟩, ⟨t1, t1f⟩, hs3, ⟨t2, t3, t3f⟩, hs4, ⟨t4, t5, t6⟩, hs5, t7, t8⟩
       have HEND := Lib.hid (And.intro t6 (And.intro t7 (And.intro t8 hs5)))
       clear t6 t7 t8 hs5)
    | (refine step_append_runI (by rfl) _ _ _ _ (by rfl) _ _ (by rfl) (by rfl) (hap _) ?_))
  all_goals (
    clear r1 r2 u0 hap t1 t1f hcy hcx K K0 KX v0 v1
    go_wp2_with (refine wpList_store_row rfl 28 _ _ rfl (w.heap.size + 3) #[.slice (some ⟨gb, 0, none⟩) (n + 1) cp, .int .i64 f] rfl rfl 28 _ HEND.out.1 info_S rfl (by simp [Value.oneCell']) ?_)
    have hr3 := setRow_heap w4' (w.heap.size + 3) _ #[.slice (some ⟨gb, 0, none⟩) (n + 1) cp, .int .i64 f] 28 (0, 0) HEND.out.1
    rw [HEND.out.2.2.2] at hr3 ⊢
    exact bodyPost_ret (v := .agg #[.slice (some ⟨gb, 0, none⟩) (n + 1) cp, .int .i64 f]) (results_cell_row (Try.results36) _ _ (w.heap.size + 3) 28 _ (0, 0) _ rfl hr3 Try.underlying28 rfl info_S) rfl ⟨_, _, _, _, rfl, HEND.out.2.2.1, HFIN.out _, HEND.out.2.1⟩)
end Go.Proofs.Ytdjgndnllaingaa.TrW
/-
  truth.put: THE WALK, all ways.
-/
namespace Go.Proofs.Ytdjgndnllaingaa.TrW
set_option linter.unusedVariables false
open Go.RowKit Go.Shelf LabM LbM LabW FrW TrM
theorem put_any (A : Option Addr) (n c : Nat) (hs : List SerH) (f : Int) (A2 : Option Addr) (n2 c2 : Nat) (l : List Lab) (T V : Int) (w : World) (hl : Sers w A n c hs) (hn : n ≤ 900) (hF : FewS hs) (hS : SmallS hs) (hl2 : Comes w 2 encL okL A2 n2 c2 l) (hf2 : fewB l = true) (hT : -9223372036854775808 ≤ T ∧ T ≤ 9223372036854775807) (hV : 0 ≤ V ∧ V < 18446744073709551616) :
    Calls Try.prog 36 #[.agg #[.slice A n c, .int .i64 f], .slice A2 n2 c2, .agg #[.int .i64 T, .int .u64 V]] w fun e w' => ∃ A' n' c' F, e = .returned (.agg #[.slice A' n' c', .int .i64 f]) ∧ Sers w' A' n' c' F ∧ F.map absR = (putM (hs.map absR, f) l (T, V)).1 ∧ Below w.heap.size w w' := by
  have hln := hl.row.len
  rcases findI_cases (hs.map absR) l with ⟨e1, e2⟩ | ⟨i, e1, e2, hi⟩
  · rcases place_fst hs l with ⟨h1, h2⟩ | ⟨p, h1, h2, h3⟩
    · exact put_end A n c hs f A2 n2 c2 l T V w hl hn hF hS hl2 hf2 hT hV e1 e2 h1 (h2.trans hln)
    · exact put_new A n c hs f A2 n2 c2 l T V w hl hn hF hS hl2 hf2 hT hV e1 e2 p h1 h2 (by omega)
  · rw [List.length_map, hln] at hi
    exact put_found A n c hs f A2 n2 c2 l T V w hl hn hF hS hl2 hf2 hT hV i e1 e2 hi
end Go.Proofs.Ytdjgndnllaingaa.TrW
/-
  WHAT A STORE INTO A BOX LEAVES AS IT WAS: slices whose things cannot lie in it.
-/
namespace Go.Proofs.Ytdjgndnllaingaa.TrW
set_option linter.unusedVariables false
open Go.RowKit Go.Shelf LabM LbM LabW FrW TrM
theorem Comes.off {α : Type} {W W' : World} {size : Nat} {encA : α → List Value} {okA : α → Prop} {A : Option Addr} {n c : Nat} {l : List α} (h : Comes W size encA okA A n c l) {k : Nat}
    (hne : ∀ (x : α) (o : Nat), (∀ j u, (encA x)[j]? = some u → W.cell? ⟨k, o + j, none⟩ = some u) → False) (hW : ∀ j, j ≠ k → W'.heap[j]? = W.heap[j]?) (hsz : W.heap.size ≤ W'.heap.size) : Comes W' size encA okA A n c l := by
  refine ⟨h.len, h.le, h.cap, fun i x hi => ?_, h.ok⟩
  obtain ⟨b, o, hA, hb, hc⟩ := h.lies i x hi
  refine ⟨b, o, hA, Nat.lt_of_lt_of_le hb hsz, fun j u hu => ?_⟩
  by_cases e : b = k
  · subst e
    exact (hne x (o + i * size) (fun j u hj => hc j u hj)).elim
  · exact (World.cell?_of_block (hW b e)).trans (hc j u hu)
section
variable {W W' : World} {k : Nat} {t : TypeId}
theorem off_lab {cs : Array Value} (hk : W.heap[k]? = some (.cells cs t (0, 0))) (hcs : ∀ (j : Nat) (s : ByteArray), cs[j]? ≠ some (.string s)) (x : Lab) (o : Nat) (h : ∀ j u, (encL x)[j]? = some u → W.cell? ⟨k, o + j, none⟩ = some u) : False := by
  have := h 0 _ rfl
  rw [cell_of_row _ _ _ _ _ _ hk] at this
  exact hcs _ _ this
theorem off_sam {cs : Array Value} (hk : W.heap[k]? = some (.cells cs t (0, 0))) (hcs : ∀ (j : Nat) (a b : Int), cs[j]? = some (.int .i64 a) → cs[j + 1]? ≠ some (.int .u64 b)) (x : Sam) (o : Nat) (h : ∀ j u, (encS x)[j]? = some u → W.cell? ⟨k, o + j, none⟩ = some u) : False := by
  have h0 := h 0 _ rfl
  have h1 := h 1 _ rfl
  rw [cell_of_row _ _ _ _ _ _ hk] at h0 h1
  exact hcs _ _ _ h0 h1
theorem off_ser {cs : Array Value} (hk : W.heap[k]? = some (.cells cs t (0, 0))) (hcs : ∀ (j : Nat) (a b : Option Addr × Nat × Nat) (z : Int), cs[j]? = some (hdV a) → cs[j + 1]? = some (hdV b) → cs[j + 2]? ≠ some (.int .i64 z)) (x : SerH) (o : Nat) (h : ∀ j u, (encR x)[j]? = some u → W.cell? ⟨k, o + j, none⟩ = some u) : False := by
  have h0 := h 0 _ rfl
  have h1 := h 1 _ rfl
  have h2 := h 2 _ rfl
  rw [cell_of_row _ _ _ _ _ _ hk] at h0 h1 h2
  exact hcs _ _ _ _ h0 h1 h2
end
/-- A block in which no label, no sample and no series lies. -/
structure Alien (cs : Array Value) : Prop where
  lab : ∀ (j : Nat) (s : ByteArray), cs[j]? ≠ some (.string s)
  sam : ∀ (j : Nat) (a b : Int), cs[j]? = some (.int .i64 a) → cs[j + 1]? ≠ some (.int .u64 b)
  ser : ∀ (j : Nat) (a b : Option Addr × Nat × Nat) (z : Int), cs[j]? = some (hdV a) → cs[j + 1]? = some (hdV b) → cs[j + 2]? ≠ some (.int .i64 z)
theorem alien_state (A : Option Addr) (n c : Nat) (f : Int) : Alien #[.slice A n c, .int .i64 f] := by
  refine ⟨fun j s h => ?_, fun j a b h h2 => ?_, fun j a b z h h2 h3 => ?_⟩
  · rcases j with _ | _ | j <;> simp at h
  · rcases j with _ | _ | j <;> simp at h h2
  · rcases j with _ | _ | j <;> simp [hdV] at h h2 h3
theorem alien_answer (A : Option Addr) (n c : Nat) (e k : Int) : Alien #[.int .i64 e, .int .i64 k, .slice A n c] := by
  refine ⟨fun j s h => ?_, fun j a b h h2 => ?_, fun j a b z h h2 h3 => ?_⟩
  · rcases j with _ | _ | _ | j <;> simp at h
  · rcases j with _ | _ | _ | j <;> simp at h h2
  · rcases j with _ | _ | _ | j <;> simp [hdV] at h h2 h3
theorem Sers.off {W W' : World} {A : Option Addr} {n c : Nat} {F : List SerH} (h : Sers W A n c F) {k : Nat} {cs : Array Value} {t : TypeId} (hk : W.heap[k]? = some (.cells cs t (0, 0))) (hcs : Alien cs) (hW : ∀ j, j ≠ k → W'.heap[j]? = W.heap[j]?) (hsz : W.heap.size ≤ W'.heap.size) : Sers W' A n c F :=
  ⟨Comes.off h.row (off_ser hk hcs.ser) hW hsz, fun x hx => ⟨Comes.off (h.ok x hx).lab (off_lab hk hcs.lab) hW hsz, Comes.off (h.ok x hx).sam (off_sam hk hcs.sam) hW hsz, (h.ok x hx).last⟩⟩
end Go.Proofs.Ytdjgndnllaingaa.TrW
