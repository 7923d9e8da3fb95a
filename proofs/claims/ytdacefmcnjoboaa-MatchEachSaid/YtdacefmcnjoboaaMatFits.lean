/-
  strings.HasPrefix, match.Fits: THE WALKS.
-/
import Derived.Test.YtdacefmcnjoboaaPick
import Derived.WalkSpells
import Derived.WalkLawsBesides
namespace Go.Proofs.Ytdacefmcnjoboaa.LabW
open Go.RowKit Go.Shelf LabM
/-- Does it begin with it? -/
def prefB (v p : ByteArray) : Bool := decide (p.size ≤ v.size) && ((v.extract 0 p.size).toList == p.toList)
def thereB (l : List Lab) (nm : ByteArray) : Bool := l.any fun x => x.1.toList == nm.toList
/-- Does a matcher fit labels? -/
def fitsB (m : Mat) (l : List Lab) : Bool :=
  if m.1 = 0 then (getL l m.2.1).toList == m.2.2.toList
  else if m.1 = 1 then (getL l m.2.1).toList != m.2.2.toList
  else if m.1 = 2 then prefB (getL l m.2.1) m.2.2
  else if m.1 = 3 then thereB l m.2.1
  else false
theorem fitsB_0 (nm vl : ByteArray) (l : List Lab) : fitsB (0, nm, vl) l = ((getL l nm).toList == vl.toList) := rfl
theorem fitsB_1 (nm vl : ByteArray) (l : List Lab) : fitsB (1, nm, vl) l = !((getL l nm).toList == vl.toList) := rfl
theorem fitsB_2 (nm vl : ByteArray) (l : List Lab) : fitsB (2, nm, vl) l = prefB (getL l nm) vl := rfl
theorem fitsB_3 (nm vl : ByteArray) (l : List Lab) : fitsB (3, nm, vl) l = thereB l nm := rfl
theorem fitsB_no (kd : Int) (nm vl : ByteArray) (l : List Lab) (h0 : ¬ kd = 0) (h1 : ¬ kd = 1) (h2 : ¬ kd = 2) (h3 : ¬ kd = 3) : fitsB (kd, nm, vl) l = false := by
  unfold fitsB
  simp only [if_neg h0, if_neg h1, if_neg h2, if_neg h3]
theorem hasPrefix2_any (v p : ByteArray) (w : World) (hv : v.size ≤ maxLen) (hp : p.size ≤ maxLen) :
    Calls Try.prog 44 #[.string v, .string p] w fun e w' => e = .returned (.bool (prefB v p)) ∧ w = w' := by
  have hv' : v.size ≤ 9223372036854775807 := hv
  have hp' : p.size ≤ 9223372036854775807 := hp
  clear hv hp
  unfold prefB
  by_cases h : p.size ≤ v.size
  · have hsl := slice_to (P := Try.prog) Try.underlying9 v (p.size : Int) p.size rfl h
    have hd : decide (p.size ≤ v.size) = true := by simpa using h
    have hc : (p.size : Int) ≤ (v.size : Int) := by omega
    generalize v.extract 0 p.size = x at *
    have HD := Lib.hid hd
    clear hd h
    go_enter Try.func44, Try.ntmps44
    go_wp2_with fail
    go_ret
    exact ⟨by rw [HD.out]; rfl, rfl⟩
  · have hd : decide (p.size ≤ v.size) = false := by simpa using h
    have hc : ¬ (p.size : Int) ≤ (v.size : Int) := by omega
    have HD := Lib.hid hd
    clear hd h
    go_enter Try.func44, Try.ntmps44
    go_wp2_with fail
    go_ret
    exact ⟨by rw [HD.out]; rfl, rfl⟩
theorem hasPrefix_any (v p : ByteArray) (w : World) (hv : v.size ≤ maxLen) (hp : p.size ≤ maxLen) :
    Calls Try.prog 33 #[.string v, .string p] w fun e w' => e = .returned (.bool (prefB v p)) ∧ w = w' := by
  have hc := hasPrefix2_any v p w hv hp
  clear hv hp
  go_enter Try.func33, Try.ntmps33
  go_wp2_with (go_at_call 44; refine hc.mono ?_; rintro e w' ⟨rfl, rfl⟩)
  go_ret
  exact ⟨rfl, rfl⟩
theorem fits1_any (x : Lab) (bm : Nat) (nm : ByteArray) (W : World) (hc : W.cell? ⟨bm, 1, none⟩ = some (.string nm)) :
    Calls Try.prog 35 (#[.agg #[.string x.1, .string x.2]] ++ #[.pointer (some ⟨bm, 0, none⟩)]) W fun e W' => e = .returned (.bool (x.1.toList == nm.toList)) ∧ Below W.heap.size W W' := by
  obtain ⟨x1, x2⟩ := x
  have hb : bm < W.heap.size := World.block_lt_of_cell? W _ hc
  show Calls Try.prog 35 #[.agg #[.string x1, .string x2], .pointer (some ⟨bm, 0, none⟩)] W _
  go_enter Try.func35, Try.ntmps35
  go_wp2_with fail
  go_ret
  exact ⟨rfl, (Below.refl _ _).alloc (Nat.le_refl _) _⟩
theorem len_filter_pos {α : Type} (p : α → Bool) (l : List α) : decide (0 < (l.filter p).length) = l.any p := by
  induction l with
  | nil => rfl
  | cons x l ih =>
    by_cases h : p x = true
    · simp [h]
    · have h' : p x = false := by simpa using h
      simp only [List.filter_cons, h', List.any_cons, Bool.false_or]
      exact ih
theorem getL_size (l : List Lab) (nm : ByteArray) (h : ∀ x ∈ l, okL x) : (getL l nm).size ≤ maxLen := by
  induction l with
  | nil => exact Nat.zero_le _
  | cons x l ih =>
    unfold getL
    split
    · exact (h x (by simp)).2
    · exact ih (fun y hy => h y (by simp [hy]))
set_option maxHeartbeats 2000000 in
theorem fits_any (m : Mat) (hm : okM m) (A : Option Addr) (n c : Nat) (l : List Lab) (w : World) (hl : Comes w 2 encL okL A n c l) (hn : n ≤ 1000000) :
    Calls Try.prog 16 #[.agg #[.int .i64 m.1, .string m.2.1, .string m.2.2], .slice A n c] w fun e w' => e = .returned (.bool (fitsB m l)) ∧ Below w.heap.size w w' := by
  obtain ⟨kd, nm, vl⟩ := m
  obtain ⟨-, -, hnm, hvl⟩ := hm
  simp only [] at hnm hvl ⊢
  have hgs := getL_size l nm hl.ok
  have HL := Lib.hid hl
  have HS := Lib.hid (And.intro hnm (And.intro hvl hgs))
  clear hl hnm hvl hgs
  go_enter Try.func16, Try.ntmps16
  go_wp2_with fail
  refine (get_any A n c l nm _ (HL.out.later ((Below.refl _ _).alloc (Nat.le_refl _) _))).mono ?_
  rintro e w1 ⟨rfl, hb1⟩
  have hb2 : Below w.heap.size w w1 := ((Below.refl _ _).alloc (Nat.le_refl _) _).trans (hb1.mono (by simp))
  have hbox : w1.heap[w.heap.size]? = some (.cells #[.int .i64 kd, .string nm, .string vl] 32 (0, 0)) := (hb1.block _ (by simp)).trans (heap_alloc_new w _)
  have hx0 : w1.cell? ⟨w.heap.size, 0, none⟩ = some (.int .i64 kd) := by rw [cell_of_row w1 _ _ _ _ _ hbox]; rfl
  have hx1 : w1.cell? ⟨w.heap.size, 1, none⟩ = some (.string nm) := by rw [cell_of_row w1 _ _ _ _ _ hbox]; rfl
  have hx2 : w1.cell? ⟨w.heap.size, 2, none⟩ = some (.string vl) := by rw [cell_of_row w1 _ _ _ _ _ hbox]; rfl
  have HB := Lib.hid hb2
  have HX := Lib.hid hx1
  clear hb1 hb2 hbox
  obtain ⟨V, hV⟩ : ∃ V, getL l nm = V := ⟨_, rfl⟩
  rw [hV]
  rw [hV] at HS
  have HV := Lib.hid hV
  clear hV
  by_cases k0 : kd = 0
  · subst k0
    go_wp2_with fail
    go_ret
    exact ⟨by rw [fitsB_0, HV.out]; rfl, HB.out⟩
  · have e0 : (kd == 0) = false := by simpa using k0
    by_cases k1 : kd = 1
    · subst k1
      clear k0 e0
      go_wp2_with fail
      go_ret
      exact ⟨by rw [fitsB_1, HV.out]; rfl, HB.out⟩
    · have e1 : (kd == 1) = false := by simpa using k1
      by_cases k2 : kd = 2
      · subst k2
        clear k0 e0 k1 e1
        go_wp2_with fail
        refine (hasPrefix_any V vl _ HS.out.2.2 HS.out.2.1).mono ?_
        rintro e w' ⟨rfl, rfl⟩
        go_wp2_with fail
        go_ret
        exact ⟨by rw [fitsB_2, HV.out]; rfl, HB.out⟩
      · have e2 : (kd == 2) = false := by simpa using k2
        by_cases k3 : kd = 3
        · subst k3
          clear k0 e0 k1 e1 k2 e2
          go_wp2_with fail
          refine (pickL_any 35 #[.pointer (some ⟨w.heap.size, 0, none⟩)] (fun x => x.1.toList == nm.toList) (enters_of Try.func35 (by kernel_rfl) rfl) A n c l _ (HL.out.later HB.out) hn
            (fun x hx W hW => fits1_any x w.heap.size nm W (by rw [← HX.out]; exact hW.cell (p := ⟨w.heap.size, 1, none⟩) (World.block_lt_of_cell? w1 _ HX.out)))).mono ?_
          rintro e w2 ⟨v, rfl, hown, hb2⟩
          obtain ⟨A2, c2, rfl, -, -⟩ := Comes.of_own (okA := fun _ => True) hown (fun _ => rfl) (by decide) (fun _ _ => trivial)
          have hpos := len_filter_pos (fun x : Lab => x.1.toList == nm.toList) l
          generalize (l.filter fun x => x.1.toList == nm.toList).length = q at *
          have HB2 := Lib.hid (later HB.out hb2)
          have HPO := Lib.hid hpos
          clear hown hb2 hpos
          go_wp2_with fail
          go_ret
          refine ⟨?_, HB2.out⟩
          rw [fitsB_3, thereB, ← HPO.out]
          simp
        · have e3 : (kd == 3) = false := by simpa using k3
          go_wp2_with fail
          go_ret
          exact ⟨by rw [fitsB_no kd nm vl l k0 k1 k2 k3]; rfl, HB.out⟩
end Go.Proofs.Ytdacefmcnjoboaa.LabW
