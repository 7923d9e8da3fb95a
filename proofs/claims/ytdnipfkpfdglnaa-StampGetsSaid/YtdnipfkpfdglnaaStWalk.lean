/-
  TIMES AS BITS: THE SMALL FUNCTIONS, WALKED.
-/
import Derived.Test.YtdnipfkpfdglnaaStMath
import Derived.Test.YtdnipfkpfdglnaaBitsOne
namespace Go.Proofs.Ytdnipfkpfdglnaa.StW
open Go.RowKit Go.Shelf BitsM BitsW StM
def clsCells : Array Value := #[.int .i64 0, .int .i64 0, .int .i64 0, .int .i64 (-63), .int .i64 64, .int .i64 7, .int .i64 (-255), .int .i64 256, .int .i64 9, .int .i64 (-2047), .int .i64 2048, .int .i64 12]
set_option maxHeartbeats 400000 in
theorem classes_any (w : World) : Calls Try.prog 34 #[] w fun e w' => e = .returned (.agg clsCells) ∧ Below w.heap.size w w' := by
  go_enter Try.func34, Try.ntmps34
  go_wp2
  exact bodyPost_ret (v := .agg clsCells) (by simp [results, Try.results34, go_sem, clsCells]) rfl ⟨rfl, (Below.refl _ _).alloc (Nat.le_refl _) _⟩
set_option maxHeartbeats 400000 in
theorem change_any (s : St) (t : Int) (w : World) : Calls Try.prog 32 #[.agg #[.int .i64 s.1, .int .i64 s.2.1, .int .i64 s.2.2], .int .i64 t] w fun e w' => e = .returned (.int .i64 (chg s t)) ∧ Below w.heap.size w w' := by
  obtain ⟨n, T, D⟩ := s
  go_enter Try.func32, Try.ntmps32
  go_wp2
  go_ret
  exact ⟨rfl, (Below.refl _ _).alloc (Nat.le_refl _) _⟩
set_option maxHeartbeats 400000 in
theorem after_any (s : St) (t : Int) (w : World) : Calls Try.prog 31 #[.agg #[.int .i64 s.1, .int .i64 s.2.1, .int .i64 s.2.2], .int .i64 t] w fun e w' => e = .returned (.agg #[.int .i64 (aftS s t).1, .int .i64 (aftS s t).2.1, .int .i64 (aftS s t).2.2]) ∧ Below w.heap.size w w' := by
  obtain ⟨n, T, D⟩ := s
  by_cases h0 : n = 0
  · subst h0
    go_enter Try.func31, Try.ntmps31
    go_wp2
    exact bodyPost_ret (v := .agg #[.int .i64 1, .int .i64 t, .int .i64 0]) (by simp [results, Try.results31, go_sem]) rfl ⟨rfl, ((Below.refl _ _).alloc (Nat.le_refl _) _).alloc (by simp) _⟩
  · have e : aftS (n, T, D) t = (wrap64 (n + 1), t, wrap64 (t - T)) := by unfold aftS; rw [if_neg h0]
    rw [e]
    have hb : (n == 0) = false := by simpa using h0
    go_enter Try.func31, Try.ntmps31
    go_wp2
    exact bodyPost_ret (v := .agg #[.int .i64 (wrap64 (n + 1)), .int .i64 t, .int .i64 (wrap64 (t - T))]) (by simp [results, Try.results31, go_sem]) rfl ⟨rfl, ((Below.refl _ _).alloc (Nat.le_refl _) _).alloc (by simp) _⟩
theorem info_cls : (Try.prog.info? 65).map (·.size) = some 12 := by kernel_rfl
/-- The classes, in a block of their own. -/
def ClsAt (W : World) (g : Nat) : Prop := W.heap[g]? = some (.cells clsCells 65 (0, 0))
theorem ClsAt.later {W W' : World} {g : Nat} (h : ClsAt W g) (hb : Below W.heap.size W W') : ClsAt W' g := (hb.block _ (Array.getElem?_eq_some_iff.1 h).1).trans h
theorem ClsAt.low {W : World} {g : Nat} (h : ClsAt W g) (i : Nat) (hi : i < 4) : W.cell? ⟨g, i * 3, none⟩ = some (.int .i64 (lowC i)) := by
  rw [cell_of_row W _ _ _ _ _ h]
  have : i = 0 ∨ i = 1 ∨ i = 2 ∨ i = 3 := by omega
  rcases this with rfl | rfl | rfl | rfl <;> rfl
def highC (i : Nat) : Int := if i = 1 then 64 else if i = 2 then 256 else if i = 3 then 2048 else 0
theorem ClsAt.high {W : World} {g : Nat} (h : ClsAt W g) (i : Nat) (hi : i < 4) : W.cell? ⟨g, i * 3 + 1, none⟩ = some (.int .i64 (highC i)) := by
  rw [cell_of_row W _ _ _ _ _ h]
  have : i = 0 ∨ i = 1 ∨ i = 2 ∨ i = 3 := by omega
  rcases this with rfl | rfl | rfl | rfl <;> rfl
theorem ClsAt.size {W : World} {g : Nat} (h : ClsAt W g) (i : Nat) (hi : i < 4) : W.cell? ⟨g, i * 3 + 2, none⟩ = some (.int .i64 (sizeC i : Nat)) := by
  rw [cell_of_row W _ _ _ _ _ h]
  have : i = 0 ∨ i = 1 ∨ i = 2 ∨ i = 3 := by omega
  rcases this with rfl | rfl | rfl | rfl <;> rfl
theorem cls_in (c : Int) : cls c = 4 ∨ lowC (cls c) ≤ c ∧ c ≤ highC (cls c) := by
  unfold cls
  by_cases h0 : c = 0
  · rw [if_pos h0]; right; rw [h0]; decide
  rw [if_neg h0]
  by_cases h1 : -63 ≤ c ∧ c ≤ 64
  · rw [if_pos h1]; exact .inr h1
  rw [if_neg h1]
  by_cases h2 : -255 ≤ c ∧ c ≤ 256
  · rw [if_pos h2]; exact .inr h2
  rw [if_neg h2]
  by_cases h3 : -2047 ≤ c ∧ c ≤ 2048
  · rw [if_pos h3]; exact .inr h3
  rw [if_neg h3]
  exact .inl rfl
theorem cls_out (c : Int) (i : Nat) (h : i < cls c) : c < lowC i ∨ highC i < c := by
  have h4 := cls_le c
  have hi : i = 0 ∨ i = 1 ∨ i = 2 ∨ i = 3 := by omega
  unfold cls at h
  split at h
  · omega
  rename_i h0
  split at h
  · rcases hi with rfl | rfl | rfl | rfl <;> (try omega)
    show c < 0 ∨ 0 < c; omega
  rename_i h1
  split at h
  · rcases hi with rfl | rfl | rfl | rfl <;> (try omega)
    · show c < 0 ∨ 0 < c; omega
    · show c < -63 ∨ 64 < c; omega
  rename_i h2
  split at h
  · rcases hi with rfl | rfl | rfl | rfl <;> (try omega)
    · show c < 0 ∨ 0 < c; omega
    · show c < -63 ∨ 64 < c; omega
    · show c < -255 ∨ 256 < c; omega
  rename_i h3
  rcases hi with rfl | rfl | rfl | rfl
  · show c < 0 ∨ 0 < c; omega
  · show c < -63 ∨ 64 < c; omega
  · show c < -255 ∨ 256 < c; omega
  · show c < -2047 ∨ 2048 < c; omega
set_option maxHeartbeats 1000000 in
theorem of_any (c : Int) (w : World) : Calls Try.prog 33 #[.int .i64 c] w fun e w' => e = .returned (.int .i64 (cls c : Nat)) ∧ Below w.heap.size w w' := by
  have h4 := cls_le c
  have HIN := Lib.hid (cls_in c)
  have HOUT := Lib.hid (fun i => cls_out c i)
  obtain ⟨k, hk⟩ : ∃ k, cls c = k := ⟨_, rfl⟩
  rw [hk] at HIN HOUT h4
  rw [hk]
  clear hk
  go_enter Try.func33, Try.ntmps33
  go_wp2_with fail
  refine (classes_any _).mono ?_
  rintro e w1 ⟨rfl, hb1⟩
  obtain ⟨cs, hcs⟩ : ∃ cs, clsCells = cs := ⟨_, rfl⟩
  rw [hcs]
  have hinf : (Try.prog.info? 65).map (·.size) = some cs.size := by rw [← hcs]; exact info_cls
  have HI := Lib.hid (show 12 = cs.size ∧ cs.all (·.oneCell') = true by rw [← hcs]; exact ⟨rfl, by kernel_rfl⟩)
  have HS := Lib.hid hcs
  clear hcs
  go_wp2_with (refine wpList_store_fresh rfl 65 _ _ rfl cs rfl rfl 65 _ hinf HI.out.1 HI.out.2 ?_; intro w2 hb2 hc2 hz2; clear hinf)
  have HC := Lib.hid (show ClsAt w2 w1.heap.size by unfold ClsAt; rw [HS.out]; exact hc2)
  have HB := Lib.hid (later hb1 hb2)
  clear hb1 hb2 hc2
  go_loop [4] (fun v4 => ∃ i : Nat, i ≤ k ∧ v4 = .int .i64 i) (fun v4 => 4 - (intOf v4).toNat)
  case atStart => exact ⟨0, Nat.zero_le _, rfl⟩
  case round =>
    obtain ⟨i, hi, rfl⟩ := hrel
    by_cases hlt : i < k
    · have i4 : i < 4 := by omega
      have c0 := HC.out.low i i4
      have c1 := HC.out.high i i4
      have hout := HOUT.out i hlt
      generalize lowC i = lo at *
      generalize highC i = hi' at *
      by_cases hl : c < lo
      · clear hout c1
        go_wp2
        go_round
        case rel => exact ⟨i + 1, by omega, by go_num⟩
        case measure => simp [intOf]; omega
      · have hh : hi' < c := by omega
        clear hout
        go_wp2
        go_round
        case rel => exact ⟨i + 1, by omega, by go_num⟩
        case measure => simp [intOf]; omega
    · obtain rfl : i = k := by omega
      rcases HIN.out with rfl | ⟨hl, hh⟩
      · go_wp2
        go_ret
        exact ⟨rfl, HB.out⟩
      · by_cases i4 : i < 4
        · have c0 := HC.out.low i i4
          have c1 := HC.out.high i i4
          generalize lowC i = lo at *
          generalize highC i = hi' at *
          have hl' : ¬ c < lo := by omega
          have hh' : ¬ hi' < c := by omega
          go_wp2
          go_ret
          exact ⟨rfl, HB.out⟩
        · go_wp2
          go_ret
          exact ⟨rfl, HB.out⟩
end Go.Proofs.Ytdnipfkpfdglnaa.StW
