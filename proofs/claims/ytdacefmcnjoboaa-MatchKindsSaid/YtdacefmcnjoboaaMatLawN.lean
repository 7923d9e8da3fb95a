/-
  MatchNot: THE WALK.
-/
import Derived.Test.YtdacefmcnjoboaaMatLawM
import Derived.Deep.RegionHeld3
namespace Go.Proofs.Ytdacefmcnjoboaa.LabW
open Go.RowKit Go.Shelf LabM
theorem sameM_self (k : Int) (a b : ByteArray) : sameM k k a a b b = true := by unfold sameM; simp
theorem eql_M_self (k : Int) (a b : ByteArray) : ∀ w, (binOp .eql 32 (.agg #[.int .i64 k, .string a, .string b]) (.agg #[.int .i64 k, .string a, .string b])).run Try.prog w = .ok (.bool true) w := fun w => by
  rw [eql_M, sameM_self]
theorem four {A B C D E : Prop} (h : A ∧ B ∧ C ∧ D ∧ E) : A ∧ B ∧ C ∧ D := ⟨h.1, h.2.1, h.2.2.1, h.2.2.2.1⟩
/-- A matcher in memory, in its own block. -/
def At (W : World) (g : Nat) (k : Int) (a b : ByteArray) : Prop := W.heap[g]? = some (.cells #[.int .i64 k, .string a, .string b] 32 (0, 0))
theorem At.later {W W' : World} {g : Nat} {k : Int} {a b : ByteArray} (h : At W g k a b) (hb : Below W.heap.size W W') : At W' g k a b := (hb.block _ (Array.getElem?_eq_some_iff.1 h).1).trans h
theorem At.c0 {W : World} {g : Nat} {k : Int} {a b : ByteArray} (h : At W g k a b) : W.cell? ⟨g, 0, none⟩ = some (.int .i64 k) := by rw [cell_of_row W _ _ _ _ _ h]; rfl
theorem At.c1 {W : World} {g : Nat} {k : Int} {a b : ByteArray} (h : At W g k a b) : W.cell? ⟨g, 1, none⟩ = some (.string a) := by rw [cell_of_row W _ _ _ _ _ h]; rfl
theorem At.c2 {W : World} {g : Nat} {k : Int} {a b : ByteArray} (h : At W g k a b) : W.cell? ⟨g, 2, none⟩ = some (.string b) := by rw [cell_of_row W _ _ _ _ _ h]; rfl
theorem At.new (W : World) (k : Int) (a b : ByteArray) : At (W.alloc (.cells #[.int .i64 k, .string a, .string b] 32)) W.heap.size k a b := heap_alloc_new W _
set_option maxRecDepth 100000 in
set_option maxHeartbeats 4000000 in
/-- Where there is another one. -/
theorem matchNot_yes (kd kn : Int) (a b : ByteArray) (A : Option Addr) (n c : Nat) (l : List Lab) (w : World) (hm : okM (kd, a, b)) (hn : okM (kn, a, b)) (h1 : notM (kd, a, b) = (kn, a, b)) (h2 : notM (kn, a, b) = (kd, a, b)) (h3 : notB (kd, a, b) = true) (h4 : notB (kn, a, b) = true) (h5 : fitsB (kn, a, b) l = !fitsB (kd, a, b) l) (hl : Comes w 2 encL okL A n c l) :
    Calls Try.prog 5 #[.agg #[.int .i64 kd, .string a, .string b], .slice A n c] w fun e w' => e = .returned (.bool true) ∧ Below w.heap.size w w' := by
  have HL := Lib.hid hl
  have hz1 : a.size ≤ 9223372036854775807 := hm.2.2.1
  have hz2 : b.size ≤ 9223372036854775807 := hm.2.2.2
  have HM := Lib.hid hm
  have HN := Lib.hid hn
  have H1 := Lib.hid h1
  have H2 := Lib.hid h2
  have H3 := Lib.hid h3
  have H4 := Lib.hid h4
  obtain ⟨F, hF⟩ : ∃ F, fewL l = F := ⟨_, rfl⟩
  obtain ⟨X, hX⟩ : ∃ X, fitsB (kd, a, b) l = X := ⟨_, rfl⟩
  rw [hX] at h5
  have HF := Lib.hid hF
  have HX := Lib.hid hX
  have H5 := Lib.hid h5
  clear hl hm hn h1 h2 h3 h4 h5 hF hX
  go_enter Try.func5, Try.ntmps5
  go_wp2_with fail
  obtain ⟨wA, hwA⟩ : ∃ wA, w.alloc (.cells #[.int .i64 kd, .string a, .string b] 32) = wA := ⟨_, rfl⟩
  have ha : At wA w.heap.size kd a b := by rw [← hwA]; exact At.new w kd a b
  have hbA : Below w.heap.size w wA := by rw [← hwA]; exact (Below.refl _ _).alloc (Nat.le_refl _) _
  rw [hwA]
  refine (mworks_any _).mono ?_
  rintro e w1 ⟨rfl, hb1⟩
  have HA := Lib.hid (ha.later hb1)
  have HB1 := Lib.hid (later hbA hb1)
  clear hb1 ha hbA hwA
  obtain ⟨gm, hgm⟩ : ∃ gm, w.heap.size = gm := ⟨_, rfl⟩
  rw [hgm] at HA ⊢
  have m0 := HA.out.c0
  have m1 := HA.out.c1
  have m2 := HA.out.c2
  go_wp2_with fail
  refine (not_any (kd, a, b) _).mono ?_
  rw [H1.out, H3.out]
  rintro e w2 ⟨rfl, hb2⟩
  clear m0 m1 m2
  go_wp2_with fail
  obtain ⟨w3, hw3⟩ : ∃ w3, w2.alloc (.cells #[.int .i64 kn, .string a, .string b] 32) = w3 := ⟨_, rfl⟩
  obtain ⟨gn, hgn⟩ : ∃ gn, w2.heap.size = gn := ⟨_, rfl⟩
  have hn3 : At w3 gn kn a b := by rw [← hw3, ← hgn]; exact At.new w2 kn a b
  have hb23 : Below w2.heap.size w2 w3 := by rw [← hw3]; exact (Below.refl _ _).alloc (Nat.le_refl _) _
  rw [hw3, hgn]
  have HA3 := Lib.hid ((HA.out.later hb2).later hb23)
  have HN3 := Lib.hid hn3
  have HB3 := Lib.hid (later (later HB1.out hb2) hb23)
  clear hb2 hb23 hn3 hw3 hgn HA HB1
  refine (fewL_any A n c l _ (HL.out.later HB3.out)).mono ?_
  rw [HF.out]
  rintro e w1' ⟨rfl, rfl⟩
  cases F with
  | false =>
    go_wp2_with fail
    go_ret
    first | exact ⟨rfl, HB3.out⟩ | exact ⟨rfl, hgm ▸ HB3.out⟩
  | true =>
  have m3 : n ≤ 10 := by rw [← HL.out.len]; exact fewL_len HF.out
  have m1 := HA3.out.c1
  have m2 := HA3.out.c2
  by_cases s1 : 300 < a.size
  · go_wp2_with fail
    go_ret
    first | exact ⟨rfl, HB3.out⟩ | exact ⟨rfl, hgm ▸ HB3.out⟩
  by_cases s2 : 300 < b.size
  · go_wp2_with fail
    go_ret
    first | exact ⟨rfl, HB3.out⟩ | exact ⟨rfl, hgm ▸ HB3.out⟩
  have n0 := HN3.out.c0
  have n1 := HN3.out.c1
  have n2 := HN3.out.c2
  go_wp2_with fail
  refine (not_any (kn, a, b) _).mono ?_
  rw [H2.out, H4.out]
  rintro e w4 ⟨rfl, hb4⟩
  clear m1 m2 n0 n1 n2
  go_wp2_with fail
  obtain ⟨w5, hw5⟩ : ∃ w5, w4.alloc (.cells #[.int .i64 kd, .string a, .string b] 32) = w5 := ⟨_, rfl⟩
  obtain ⟨gk, hgk⟩ : ∃ gk, w4.heap.size = gk := ⟨_, rfl⟩
  have hk5 : At w5 gk kd a b := by rw [← hw5, ← hgk]; exact At.new w4 kd a b
  have hb45 : Below w4.heap.size w4 w5 := by rw [← hw5]; exact (Below.refl _ _).alloc (Nat.le_refl _) _
  rw [hw5, hgk]
  have S0 := Lib.hid (And.intro (later (later HB3.out hb4) hb45) (And.intro ((HA3.out.later hb4).later hb45) (And.intro ((HN3.out.later hb4).later hb45) hk5)))
  clear hb4 hb45 hk5 hw5 hgk HA3 HN3 HB3
  have C := Lib.hid (fun (W : World) (h : Below w.heap.size w W) (k : Int) (hk : okM (k, a, b)) => fits_any (k, a, b) hk A n c l W (HL.out.later h) (by omega))
  have K := Lib.hid (fun (W W' : World) (h : Below w.heap.size w W ∧ At W gm kd a b ∧ At W gn kn a b ∧ At W gk kd a b) (hb' : Below W.heap.size W W') =>
    (⟨later h.1 hb', h.2.1.later hb', h.2.2.1.later hb', h.2.2.2.later hb', (h.2.1.later hb').c0, (h.2.1.later hb').c1, (h.2.1.later hb').c2, (h.2.2.1.later hb').c0, (h.2.2.1.later hb').c1, (h.2.2.1.later hb').c2, (h.2.2.2.later hb').c0, (h.2.2.2.later hb').c1, (h.2.2.2.later hb').c2⟩ :
      Below w.heap.size w W' ∧ At W' gm kd a b ∧ At W' gn kn a b ∧ At W' gk kd a b ∧
      W'.cell? ⟨gm, 0, none⟩ = some (.int .i64 kd) ∧ W'.cell? ⟨gm, 1, none⟩ = some (.string a) ∧ W'.cell? ⟨gm, 2, none⟩ = some (.string b) ∧
      W'.cell? ⟨gn, 0, none⟩ = some (.int .i64 kn) ∧ W'.cell? ⟨gn, 1, none⟩ = some (.string a) ∧ W'.cell? ⟨gn, 2, none⟩ = some (.string b) ∧
      W'.cell? ⟨gk, 0, none⟩ = some (.int .i64 kd) ∧ W'.cell? ⟨gk, 1, none⟩ = some (.string a) ∧ W'.cell? ⟨gk, 2, none⟩ = some (.string b)))
  have hS0 := K.out _ _ S0.out (below_self_drew w5)
  have hq := eql_M_self kd a b
  have hg := guard_M
  clear H1 H2 H3 H4 HF HL S0
  cases X
  all_goals
    go_region_held3 (fun W : World => Below w.heap.size w W ∧ At W gm kd a b ∧ At W gn kn a b ∧ At W gk kd a b ∧
      W.cell? ⟨gm, 0, none⟩ = some (.int .i64 kd) ∧ W.cell? ⟨gm, 1, none⟩ = some (.string a) ∧ W.cell? ⟨gm, 2, none⟩ = some (.string b) ∧
      W.cell? ⟨gn, 0, none⟩ = some (.int .i64 kn) ∧ W.cell? ⟨gn, 1, none⟩ = some (.string a) ∧ W.cell? ⟨gn, 2, none⟩ = some (.string b) ∧
      W.cell? ⟨gk, 0, none⟩ = some (.int .i64 kd) ∧ W.cell? ⟨gk, 1, none⟩ = some (.string a) ∧ W.cell? ⟨gk, 2, none⟩ = some (.string b))
      (first | exact hS0 | exact K.out _ _ (four (by assumption)) (by assumption))
      ((go_at_call 16; refine (C.out _ (And.left (by assumption)) _ (by first | exact HM.out | exact HN.out)).mono ?_; (first | rw [HX.out] | rw [H5.out]); rintro e w9 ⟨rfl, hb9⟩))
    go_wp2
    go_ret
    first | exact ⟨rfl, And.left (by assumption)⟩ | exact ⟨rfl, hgm ▸ And.left (by assumption)⟩
set_option maxRecDepth 100000 in
set_option maxHeartbeats 4000000 in
/-- Where there is none. -/
theorem matchNot_no (kd : Int) (a b : ByteArray) (A : Option Addr) (n c : Nat) (l : List Lab) (w : World) (hm : okM (kd, a, b)) (k0 : ¬ kd = 0) (k1 : ¬ kd = 1) (hl : Comes w 2 encL okL A n c l) :
    Calls Try.prog 5 #[.agg #[.int .i64 kd, .string a, .string b], .slice A n c] w fun e w' => e = .returned (.bool true) ∧ Below w.heap.size w w' := by
  have HL := Lib.hid hl
  have hz1 : a.size ≤ 9223372036854775807 := hm.2.2.1
  have hz2 : b.size ≤ 9223372036854775807 := hm.2.2.2
  have h1 : notM (kd, a, b) = (kd, a, b) := by unfold notM; rw [if_neg k0, if_neg k1]
  have h3 : notB (kd, a, b) = false := by unfold notB; rw [decide_eq_false k0, decide_eq_false k1]; rfl
  have H1 := Lib.hid h1
  have H3 := Lib.hid h3
  have b0 : (kd != 0) = true := by simpa using k0
  have b1 : (kd != 1) = true := by simpa using k1
  obtain ⟨F, hF⟩ : ∃ F, fewL l = F := ⟨_, rfl⟩
  have HF := Lib.hid hF
  clear hl hm h1 h3 hF k0 k1
  go_enter Try.func5, Try.ntmps5
  go_wp2_with fail
  obtain ⟨wA, hwA⟩ : ∃ wA, w.alloc (.cells #[.int .i64 kd, .string a, .string b] 32) = wA := ⟨_, rfl⟩
  have ha : At wA w.heap.size kd a b := by rw [← hwA]; exact At.new w kd a b
  have hbA : Below w.heap.size w wA := by rw [← hwA]; exact (Below.refl _ _).alloc (Nat.le_refl _) _
  rw [hwA]
  refine (mworks_any _).mono ?_
  rintro e w1 ⟨rfl, hb1⟩
  have HA := Lib.hid (ha.later hb1)
  have HB1 := Lib.hid (later hbA hb1)
  clear hb1 ha hbA hwA
  obtain ⟨gm, hgm⟩ : ∃ gm, w.heap.size = gm := ⟨_, rfl⟩
  rw [hgm] at HA ⊢
  have m0 := HA.out.c0
  have m1 := HA.out.c1
  have m2 := HA.out.c2
  go_wp2_with fail
  refine (not_any (kd, a, b) _).mono ?_
  rw [H1.out, H3.out]
  rintro e w2 ⟨rfl, hb2⟩
  clear m0 m1 m2
  go_wp2_with fail
  obtain ⟨w3, hw3⟩ : ∃ w3, w2.alloc (.cells #[.int .i64 kd, .string a, .string b] 32) = w3 := ⟨_, rfl⟩
  obtain ⟨gn, hgn⟩ : ∃ gn, w2.heap.size = gn := ⟨_, rfl⟩
  have hn3 : At w3 gn kd a b := by rw [← hw3, ← hgn]; exact At.new w2 kd a b
  have hb23 : Below w2.heap.size w2 w3 := by rw [← hw3]; exact (Below.refl _ _).alloc (Nat.le_refl _) _
  rw [hw3, hgn]
  have HA3 := Lib.hid ((HA.out.later hb2).later hb23)
  have HN3 := Lib.hid hn3
  have HB3 := Lib.hid (later (later HB1.out hb2) hb23)
  clear hb2 hb23 hn3 hw3 hgn HA HB1
  refine (fewL_any A n c l _ (HL.out.later HB3.out)).mono ?_
  rw [HF.out]
  rintro e w1' ⟨rfl, rfl⟩
  have q0 := HA3.out.c0
  have q1 := HA3.out.c1
  have q2 := HA3.out.c2
  have n0 := HN3.out.c0
  have n1 := HN3.out.c1
  have n2 := HN3.out.c2
  have hq := eql_M_self kd a b
  have hg := guard_M
  cases F with
  | false =>
    go_wp2_with fail
    go_ret
    first | exact ⟨rfl, HB3.out⟩ | exact ⟨rfl, hgm ▸ HB3.out⟩
  | true =>
  by_cases s1 : 300 < a.size
  · go_wp2_with fail
    go_ret
    first | exact ⟨rfl, HB3.out⟩ | exact ⟨rfl, hgm ▸ HB3.out⟩
  by_cases s2 : 300 < b.size
  · go_wp2_with fail
    go_ret
    first | exact ⟨rfl, HB3.out⟩ | exact ⟨rfl, hgm ▸ HB3.out⟩
  go_wp2_with fail
  go_ret
  first | exact ⟨rfl, HB3.out⟩ | exact ⟨rfl, hgm ▸ HB3.out⟩
theorem matchNot_all (m : Mat) (A : Option Addr) (n c : Nat) (l : List Lab) (w : World) (hm : okM m) (hl : Comes w 2 encL okL A n c l) :
    Calls Try.prog 5 #[.agg #[.int .i64 m.1, .string m.2.1, .string m.2.2], .slice A n c] w fun e w' => e = .returned (.bool true) ∧ Below w.heap.size w w' := by
  obtain ⟨kd, a, b⟩ := m
  have hk : ∀ k : Int, 0 ≤ k → k ≤ 9 → okM (k, a, b) := fun k h0 h1 => ⟨by show _ ≤ k; omega, by show k ≤ _; omega, hm.2.2.1, hm.2.2.2⟩
  by_cases k0 : kd = 0
  · subst k0
    exact matchNot_yes 0 1 a b A n c l w hm (hk 1 (by decide) (by decide)) rfl rfl rfl rfl rfl hl
  · by_cases k1 : kd = 1
    · subst k1
      exact matchNot_yes 1 0 a b A n c l w hm (hk 0 (by decide) (by decide)) rfl rfl rfl rfl (by rw [fitsB_0, fitsB_1, Bool.not_not]) hl
    · exact matchNot_no kd a b A n c l w hm k0 k1 hl
end Go.Proofs.Ytdacefmcnjoboaa.LabW
