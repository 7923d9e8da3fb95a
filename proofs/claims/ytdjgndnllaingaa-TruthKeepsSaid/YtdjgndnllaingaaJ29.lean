/-
  truth.All: THE WALK.
-/
import Derived.Test.YtdjgndnllaingaaJ28
/-
  truth.All: THE WALK.
-/
namespace Go.Proofs.Ytdjgndnllaingaa.TrW
set_option linter.unusedVariables false
open Go.RowKit Go.Shelf LabM LbM LabW FrW TrM
theorem few_of_check {l : List Lab} (h : checkB l = true) : fewB l = true := by
  rw [fewB_iff]
  constructor
  · unfold checkB at h
    simp only [Bool.and_eq_true, decide_eq_true_eq] at h
    omega
  · intro x hx
    have := check_48 h x hx
    simp at this
    omega
/-- A state that may be, in memory. -/
structure StV (w : World) (A : Option Addr) (n c : Nat) (hs : List SerH) (f : Int) : Prop where
  sers : Sers w A n c hs
  valid : Valid (hs.map absR, f)
theorem StV.later {w w' : World} {A : Option Addr} {n c : Nat} {hs : List SerH} {f : Int} (h : StV w A n c hs f) (hb : Below w.heap.size w w') : StV w' A n c hs f := ⟨h.sers.later hb, h.valid⟩
theorem StV.off {W W' : World} {A : Option Addr} {n c : Nat} {F : List SerH} {f : Int} (h : StV W A n c F f) {k : Nat} {cs : Array Value} {t : TypeId} (hk : W.heap[k]? = some (.cells cs t (0, 0))) (hcs : Alien cs) (hW : ∀ j, j ≠ k → W'.heap[j]? = W.heap[j]?) (hsz : W.heap.size ≤ W'.heap.size) : StV W' A n c F f := ⟨h.sers.off hk hcs hW hsz, h.valid⟩
section
variable {w : World} {A : Option Addr} {n c : Nat} {hs : List SerH} {f : Int}
theorem StV.n20 (h : StV w A n c hs f) : n ≤ 20 := by
  have h1 := h.sers.row.len
  have h2 := h.valid.len
  simp at h2
  omega
theorem StV.few (h : StV w A n c hs f) : FewS hs := fun x hx => few_of_check (h.valid.right (absR x) (List.mem_map.2 ⟨x, hx, rfl⟩)).lab
theorem StV.small (h : StV w A n c hs f) : SmallS hs := fun x hx => Nat.le_trans (h.valid.right (absR x) (List.mem_map.2 ⟨x, hx, rfl⟩)).len (by omega)
theorem StV.floor (h : StV w A n c hs f) : 0 ≤ f ∧ f ≤ 1125899906842624 := (timely_iff _).1 h.valid.floor
end
theorem valid_apply {s : St} (hv : Valid s) (r : Rec) : Valid (applyM s r).1 := by
  unfold applyM
  split
  · simp only []
    split
    · exact hv
    · rename_i h0 h
      exact valid_put hv (allowed_two _ _ _ _ h)
  split
  · split
    · exact hv
    · rename_i i hf
      split
      · exact hv
      · obtain ⟨hi, hl⟩ := fnd_some hf
        rw [atS_lt hi]
        have hr := hv.right _ (List.getElem_mem hi)
        refine ⟨hv.floor, by rw [List.length_set]; exact hv.len, ord_of (labs_set hi _ rfl) hv.ord, fun y hy => ?_⟩
        rcases List.mem_or_eq_of_mem_set hy with hy | rfl
        · exact hv.right y hy
        · have hs : (restS r.2.2.1 r.2.2.2.1 s.1[i]).Sublist s.1[i].2.1 := List.filter_sublist
          refine ⟨hr.lab, Nat.le_trans hs.length_le hr.len, ?_, hr.last, hr.floor, fun z hz => hr.ins z (hs.subset hz)⟩
          have := hr.sor
          rw [sorted_pw] at this ⊢
          exact this.sublist hs
  split
  · split
    · exact hv
    · rename_i h
      exact valid_from hv (by simp only [not_or, Bool.not_eq_false] at h; exact h.1)
  · exact hv
/-! ### Changes in memory -/
abbrev RecH := Int × Hd Lab × Int × Int × Int
def encC (r : RecH) : List Value := [.int .i64 r.1, hdV r.2.1.1, .int .i64 r.2.2.1, .int .i64 r.2.2.2.1, .int .u64 r.2.2.2.2]
def absC (r : RecH) : Rec := (r.1, r.2.1.2, r.2.2.1, r.2.2.2.1, r.2.2.2.2)
structure okC (w : World) (r : RecH) : Prop where
  lab : Comes w 2 encL okL r.2.1.1.1 r.2.1.1.2.1 r.2.1.1.2.2 r.2.1.2
  few : fewB r.2.1.2 = true
  t : -9223372036854775808 ≤ r.2.2.1 ∧ r.2.2.1 ≤ 9223372036854775807
  v : 0 ≤ r.2.2.2.2 ∧ r.2.2.2.2 < 18446744073709551616
theorem okC.later {w w' : World} {r : RecH} (h : okC w r) (hb : Below w.heap.size w w') : okC w' r := ⟨h.lab.later hb, h.few, h.t, h.v⟩
/-- A slice of changes. -/
structure Recs (w : World) (A : Option Addr) (n c : Nat) (rs : List RecH) : Prop where
  row : Comes w 5 encC (fun _ => True) A n c rs
  ok : ∀ r ∈ rs, okC w r
theorem Recs.later {w w' : World} {A : Option Addr} {n c : Nat} {rs : List RecH} (h : Recs w A n c rs) (hb : Below w.heap.size w w') : Recs w' A n c rs := ⟨h.row.later hb, fun x hx => (h.ok x hx).later hb⟩
theorem Recs.cells {w : World} {A : Option Addr} {n c : Nat} {rs : List RecH} (h : Recs w A n c rs) {k : Nat} (hk : k < rs.length) :
    ∃ b o, A = some ⟨b, o, none⟩ ∧ b < w.heap.size ∧ ∀ W, Below w.heap.size w W → W.cell? ⟨b, o + k * 5, none⟩ = some (.int .i64 rs[k].1) ∧ W.cell? ⟨b, o + k * 5 + 1, none⟩ = some (hdV rs[k].2.1.1) ∧ W.cell? ⟨b, o + k * 5 + 2, none⟩ = some (.int .i64 rs[k].2.2.1) ∧ W.cell? ⟨b, o + k * 5 + 3, none⟩ = some (.int .i64 rs[k].2.2.2.1) ∧ W.cell? ⟨b, o + k * 5 + 4, none⟩ = some (.int .u64 rs[k].2.2.2.2) := by
  obtain ⟨b, o, hA, hb, hc⟩ := h.row.lies.all hk
  exact ⟨b, o, hA, hb, fun W hW => ⟨hc W hW 0 _ rfl, hc W hW 1 _ rfl, hc W hW 2 _ rfl, hc W hW 3 _ rfl, hc W hW 4 _ rfl⟩⟩
set_option maxRecDepth 20000 in
set_option maxHeartbeats 8000000 in
theorem all_any (A : Option Addr) (n c : Nat) (hs : List SerH) (f : Int) (A3 : Option Addr) (n3 c3 : Nat) (rs : List RecH) (w : World) (hl : StV w A n c hs f) (hr : Recs w A3 n3 c3 rs) (hn3 : n3 ≤ 1000000) :
    Calls Try.prog 12 #[.agg #[.slice A n c, .int .i64 f], .slice A3 n3 c3] w fun e w' => ∃ (A' : Option Addr) (n' c' : Nat) (F : List SerH) (f' : Int) (k : Nat), e = .returned (.tuple #[.agg #[.slice A' n' c', .int .i64 f'], .int .i64 (k : Int)]) ∧ StV w' A' n' c' F f' ∧ allM (hs.map absR, f) (rs.map absC) = ((F.map absR, f'), k) ∧ Below w.heap.size w w' := by
  have HL := Lib.hid hl
  have HR := Lib.hid hr
  have hcap3 : c3 ≤ 9223372036854775807 := hr.row.cap
  have hle3 := hr.row.le
  obtain ⟨s0, hs0⟩ : ∃ s0 : St, (hs.map absR, f) = s0 := ⟨_, rfl⟩
  have HS0 := Lib.hid hs0
  obtain ⟨ls, hls⟩ : ∃ ls, rs.map absC = ls := ⟨_, rfl⟩
  have HLS := Lib.hid hls
  rw [hs0, hls]
  clear hl hr hs0 hls
  obtain ⟨Wa, hWa⟩ : ∃ Wa, w.alloc (.cells #[.slice A n c, .int .i64 f] 28 (0, 0)) = Wa := ⟨_, rfl⟩
  obtain ⟨W0, hW0⟩ : ∃ W0, Wa.alloc (.cells #[.slice none 0 0, .int .i64 0] 28 (0, 0)) = W0 := ⟨_, rfl⟩
  have za : Wa.heap.size = w.heap.size + 1 := by rw [← hWa]; simp
  have z0 : W0.heap.size = w.heap.size + 2 := by rw [← hW0]; simp [za]
  have ba : Below w.heap.size w Wa := by rw [← hWa]; exact (Below.refl _ _).alloc (Nat.le_refl _) _
  have b0 : Below w.heap.size w W0 := by rw [← hW0]; exact ba.alloc ba.size _
  have ra : Wa.heap[w.heap.size]? = some (.cells #[.slice A n c, .int .i64 f] 28 (0, 0)) := by rw [← hWa]; exact heap_alloc_new w _
  have r0 : W0.heap[w.heap.size]? = some (.cells #[.slice A n c, .int .i64 f] 28 (0, 0)) := by rw [← hW0]; exact (Below.heap_alloc _ _ _ (by omega)).trans ra
  have r1 : W0.heap[w.heap.size + 1]? = some (.cells #[.slice none 0 0, .int .i64 0] 28 (0, 0)) := by rw [← hW0, ← za]; exact heap_alloc_new Wa _
  have H0 := Lib.hid (And.intro b0 (And.intro z0 (And.intro r0 r1)))
  clear ba b0 ra r0 r1 z0
  go_enter Try.func12, Try.ntmps12
  go_wp2_with fail
  clear hWa hW0
  go_loopw [12] (fun v12 wr => ∃ (k : Nat) (A' : Option Addr) (n' c' : Nat) (F : List SerH) (f' : Int), k ≤ n3 ∧ v12 = .int .i64 k ∧ w.heap.size + 2 ≤ wr.heap.size ∧ wr.heap[w.heap.size]? = some (.cells #[.slice A' n' c', .int .i64 f'] 28 (0, 0)) ∧ wr.heap[w.heap.size + 1]? = some (.cells #[.slice none 0 0, .int .i64 0] 28 (0, 0)) ∧ StV wr A' n' c' F f' ∧ allM s0 ls = ((allM (F.map absR, f') (ls.drop k)).1, (allM (F.map absR, f') (ls.drop k)).2 + k) ∧ Below w.heap.size w wr) (fun v12 _ => n3 - (intOf v12).toNat)
  case atStart => exact ⟨0, A, n, c, hs, f, Nat.zero_le _, rfl, by rw [H0.out.2.1]; exact Nat.le_refl _, H0.out.2.2.1, H0.out.2.2.2, HL.out.later H0.out.1, by rw [List.drop_zero, HS0.out]; rfl, H0.out.1⟩
  case round =>
    obtain ⟨k, A', n', c', F, f', hk, rfl, hz, hr0, hr1, hst, hall, ho⟩ := hrel
    have hln := HR.out.row.len
    have hll : ls.length = n3 := by rw [← HLS.out, List.length_map]; exact hln
    by_cases hlt : k < n3
    · have hkl : k < rs.length := by omega
      have hkl2 : k < ls.length := by omega
      obtain ⟨b, o, rfl, -, hcs⟩ := HR.out.cells hkl
      obtain ⟨d0, d1, d2, d3, d4⟩ := hcs _ ho
      have hok := HR.out.ok _ (List.getElem_mem hkl)
      have hlk : ls[k] = absC rs[k] := by simp only [← HLS.out, List.getElem_map]
      rw [List.drop_eq_getElem_cons hkl2, hlk] at hall
      generalize rs[k] = r at *
      obtain ⟨kd, ⟨⟨A2, n2, c2⟩, L⟩, T, O, V⟩ := r
      unfold hdV at d1
      unfold absC at hall
      simp only [] at d0 d1 d2 d3 d4 hall
      have hok1 := hok.lab
      have hok2 := hok.few
      have hok3 := hok.t
      have hok4 := hok.v
      simp only [] at hok1 hok2 hok3 hok4
      obtain ⟨wA, hwA⟩ : ∃ wA, wr.alloc (.cells #[.int .i64 kd, .slice A2 n2 c2, .int .i64 T, .int .i64 O, .int .u64 V] 64 (0, 0)) = wA := ⟨_, rfl⟩
      have hbA : Below wr.heap.size wr wA := by rw [← hwA]; exact (Below.refl _ _).alloc (Nat.le_refl _) _
      have hrA : wA.heap[wr.heap.size]? = some (.cells #[.int .i64 kd, .slice A2 n2 c2, .int .i64 T, .int .i64 O, .int .u64 V] 64 (0, 0)) := by rw [← hwA]; exact heap_alloc_new wr _
      have hrA0 := (hbA.block w.heap.size (by omega)).trans hr0
      obtain ⟨x0, x1⟩ : wA.cell? ⟨w.heap.size, 0, none⟩ = some (.slice A' n' c') ∧ wA.cell? ⟨w.heap.size, 1, none⟩ = some (.int .i64 f') := by
        refine ⟨?_, ?_⟩ <;> (rw [cell_of_row _ _ _ _ _ _ hrA0]; rfl)
      obtain ⟨y0, y1, y2, y3, y4⟩ : wA.cell? ⟨wr.heap.size, 0, none⟩ = some (.int .i64 kd) ∧ wA.cell? ⟨wr.heap.size, 1, none⟩ = some (.slice A2 n2 c2) ∧ wA.cell? ⟨wr.heap.size, 2, none⟩ = some (.int .i64 T) ∧ wA.cell? ⟨wr.heap.size, 3, none⟩ = some (.int .i64 O) ∧ wA.cell? ⟨wr.heap.size, 4, none⟩ = some (.int .u64 V) := by
        refine ⟨?_, ?_, ?_, ?_, ?_⟩ <;> (rw [cell_of_row _ _ _ _ _ _ hrA]; rfl)
      have hstA := hst.later hbA
      have hoA : Below w.heap.size w wA := ho.trans (hbA.mono ho.size)
      have KA := Lib.hid (apply_any A' n' c' F f' kd A2 n2 c2 L T O V wA hstA.sers (by have := hstA.n20; omega) hstA.few hstA.small (hok1.later hoA) hok2 hok3 hok4)
      have HVA := Lib.hid (valid_apply hst.valid (kd, L, T, O, V))
      have HALL : Hid (allM s0 ls = ((if (applyM (F.map absR, f') (kd, L, T, O, V)).2 = 0 then ((allM (applyM (F.map absR, f') (kd, L, T, O, V)).1 (ls.drop (k + 1))).1, (allM (applyM (F.map absR, f') (kd, L, T, O, V)).1 (ls.drop (k + 1))).2 + 1 + k) else ((F.map absR, f'), k)) : St × Nat)) := Lib.hid (by
        rw [hall, show TrM.allM (F.map absR, f') ((kd, L, T, O, V) :: ls.drop (k + 1)) = (if (applyM (F.map absR, f') (kd, L, T, O, V)).2 = 0 then ((TrM.allM (applyM (F.map absR, f') (kd, L, T, O, V)).1 (ls.drop (k + 1))).1, (TrM.allM (applyM (F.map absR, f') (kd, L, T, O, V)).1 (ls.drop (k + 1))).2 + 1) else ((F.map absR, f'), 0)) from rfl]
        by_cases hz : (applyM (F.map absR, f') (kd, L, T, O, V)).2 = 0
        · simp only [if_pos hz]
        · simp only [if_neg hz, Nat.zero_add])
      have HA := Lib.hid (And.intro hoA (And.intro hrA0 (And.intro ((hbA.block _ (by omega)).trans hr1) (And.intro hstA (show w.heap.size + 2 ≤ wA.heap.size from Nat.le_trans hz hbA.size)))))
      have i0 : (0 : Int) ≤ (k : Int) := by omega
      have i1 : (k : Int) < (n3 : Int) := by omega
      unfold ApA at KA
      generalize applyM (F.map absR, f') (kd, L, T, O, V) = am at *
      obtain ⟨⟨sm, fm⟩, em⟩ := am
      simp only [] at KA HVA HALL
      clear hr0 hr1 hst hall ho hcs hok hok1 hok2 hok3 hok4 hbA hrA hrA0 hstA hoA hlk
      go_wp2_with fail
      refine KA.out.mono ?_
      rintro e w1 ⟨A9, n9, c9, F9, rfl, hS9, hm9, hb1⟩
      obtain ⟨a1, a2, a3, a4, a5⟩ := HA.out
      have hq0 := (hb1.block w.heap.size (by omega)).trans a2
      have hq1 := (hb1.block (w.heap.size + 1) (by omega)).trans a3
      have hb1w : Below w.heap.size w w1 := later a1 hb1
      obtain ⟨w2, hw2⟩ : ∃ w2, w1.alloc (.cells #[.slice A9 n9 c9, .int .i64 fm] 28 (0, 0)) = w2 := ⟨_, rfl⟩
      have hb2 : Below w1.heap.size w1 w2 := by rw [← hw2]; exact (Below.refl _ _).alloc (Nat.le_refl _) _
      have hr2 : w2.heap[w1.heap.size]? = some (.cells #[.slice A9 n9 c9, .int .i64 fm] 28 (0, 0)) := by rw [← hw2]; exact heap_alloc_new w1 _
      have hz1 : w.heap.size + 2 ≤ w1.heap.size := Nat.le_trans a5 hb1.size
      have hq0' := (hb2.block w.heap.size (by omega)).trans hq0
      have hq1' := (hb2.block (w.heap.size + 1) (by omega)).trans hq1
      obtain ⟨u0, u1⟩ : w2.cell? ⟨w.heap.size, 0, none⟩ = some (.slice A' n' c') ∧ w2.cell? ⟨w.heap.size, 1, none⟩ = some (.int .i64 f') := by
        refine ⟨?_, ?_⟩ <;> (rw [cell_of_row _ _ _ _ _ _ hq0']; rfl)
      obtain ⟨v0, v1⟩ : w2.cell? ⟨w1.heap.size, 0, none⟩ = some (.slice A9 n9 c9) ∧ w2.cell? ⟨w1.heap.size, 1, none⟩ = some (.int .i64 fm) := by
        refine ⟨?_, ?_⟩ <;> (rw [cell_of_row _ _ _ _ _ _ hr2]; rfl)
      have hst9 : StV w2 A9 n9 c9 F9 fm := ⟨hS9.later hb2, by rw [hm9]; exact HVA.out⟩
      have hstF : StV w2 A' n' c' F f' := (a4.later hb1).later hb2
      have hb2w : Below w.heap.size w w2 := hb1w.trans (hb2.mono hb1w.size)
      have H2 := Lib.hid (And.intro hb2w (And.intro hq0' (And.intro hq1' (And.intro hst9 (And.intro hstF (And.intro (Nat.le_trans hz1 hb2.size) hm9))))))
      clear a1 a2 a3 a4 a5 hq0 hq1 hb1w hb1 hb2 hr2 hq0' hq1' hst9 hstF hb2w hS9 hm9 hz1 KA x0 x1 y0 y1 y2 y3 y4
      by_cases hem : em = 0
      · subst hem
        rw [if_pos rfl] at HALL
        go_wp2_with (refine wpList_store_row rfl 28 _ _ rfl w.heap.size #[.slice A9 n9 c9, .int .i64 fm] rfl rfl 28 _ H2.out.2.1 info_S rfl (by simp [Value.oneCell']) ?_)
        go_roundw
        case rel =>
          obtain ⟨q1, q2, q3, q4, q5, q6, q7⟩ := H2.out
          refine ⟨k + 1, A9, n9, c9, F9, fm, by omega, by go_num, by simpa using q6, setRow_heap _ _ _ _ _ _ q2, (setRow_other _ _ _ _ (by omega)).trans q3, q4.off q2 (alien_state _ _ _ _) (fun j hj => setRow_other _ _ _ _ hj) (by simp), ?_, below_setRow q1 (Nat.le_refl _) _⟩
          rw [HALL.out, q7]
          congr 1
          omega
        case measure => simp [intOf]; omega
      · rw [if_neg hem] at HALL
        have hne : (em != 0) = true := by simpa using hem
        go_wp2_with (refine wpList_store_row rfl 28 _ _ rfl (w.heap.size + 1) #[.slice A' n' c', .int .i64 f'] rfl rfl 28 _ H2.out.2.2.1 info_S rfl (by simp [Value.oneCell']) ?_)
        obtain ⟨q1, q2, q3, q4, q5, q6, q7⟩ := H2.out
        have hrr := setRow_heap w2 (w.heap.size + 1) _ #[.slice A' n' c', .int .i64 f'] 28 (0, 0) q3
        have r0 : (w2.setRow (w.heap.size + 1) #[.slice A' n' c', .int .i64 f']).cell? ⟨w.heap.size + 1, 0, none⟩ = some (.slice A' n' c') := by rw [cell_of_row _ _ _ _ _ _ hrr]; rfl
        have r1 : (w2.setRow (w.heap.size + 1) #[.slice A' n' c', .int .i64 f']).cell? ⟨w.heap.size + 1, 1, none⟩ = some (.int .i64 f') := by rw [cell_of_row _ _ _ _ _ _ hrr]; rfl
        exact bodyPost_ret (v := .tuple #[.agg #[.slice A' n' c', .int .i64 f'], .int .i64 (k : Int)]) (by simp [results, Try.results12, go_sem, r0, r1]) rfl ⟨A', n', c', F, f', k, rfl, q5.off q3 (alien_state _ _ _ _) (fun j hj => setRow_other _ _ _ _ hj) (by simp), HALL.out, below_setRow q1 (by omega) _⟩
    · obtain rfl : k = n3 := by omega
      rw [List.drop_of_length_le (by omega)] at hall
      obtain ⟨x0, x1⟩ : wr.cell? ⟨w.heap.size, 0, none⟩ = some (.slice A' n' c') ∧ wr.cell? ⟨w.heap.size, 1, none⟩ = some (.int .i64 f') := by
        refine ⟨?_, ?_⟩ <;> (rw [cell_of_row _ _ _ _ _ _ hr0]; rfl)
      have H2 := Lib.hid (And.intro ho (And.intro hr1 (And.intro hst hall)))
      clear ho hr0 hst hall hln hll
      go_wp2_with (refine wpList_store_row rfl 28 _ _ rfl (w.heap.size + 1) #[.slice A' n' c', .int .i64 f'] rfl rfl 28 _ hr1 info_S rfl (by simp [Value.oneCell']) ?_)
      obtain ⟨q1, q2, q3, q4⟩ := H2.out
      have hrr := setRow_heap wr (w.heap.size + 1) _ #[.slice A' n' c', .int .i64 f'] 28 (0, 0) q2
      have r0 : (wr.setRow (w.heap.size + 1) #[.slice A' n' c', .int .i64 f']).cell? ⟨w.heap.size + 1, 0, none⟩ = some (.slice A' n' c') := by rw [cell_of_row _ _ _ _ _ _ hrr]; rfl
      have r1 : (wr.setRow (w.heap.size + 1) #[.slice A' n' c', .int .i64 f']).cell? ⟨w.heap.size + 1, 1, none⟩ = some (.int .i64 f') := by rw [cell_of_row _ _ _ _ _ _ hrr]; rfl
      exact bodyPost_ret (v := .tuple #[.agg #[.slice A' n' c', .int .i64 f'], .int .i64 (k : Int)]) (by simp [results, Try.results12, go_sem, r0, r1]) rfl ⟨A', n', c', F, f', k, rfl, q3.off q2 (alien_state _ _ _ _) (fun j hj => setRow_other _ _ _ _ hj) (by simp), by rw [q4]; simp [TrM.allM], below_setRow q1 (by omega) _⟩
end Go.Proofs.Ytdjgndnllaingaa.TrW
