/-
  FrameTurned: THE WALK.
-/
import Derived.Test.YtmaehbcjcifchaaFrLawA
import Derived.Lib.ConvBytes
import Derived.BigRegion
namespace Go.Proofs.Ytmaehbcjcifchaa.FrW
set_option linter.unusedVariables false
open Go.RowKit CrcM CrcW FrM
/-! Put, of greater texts. -/
set_option maxHeartbeats 400000 in
theorem text_great (l : List UInt8) (w : World) (hl : l.length ≤ 140737488355328) :
    Calls Try.prog 24 #[.string (bs l)] w fun e w' => e = .returned (.string (bs (text l))) ∧ Below w.heap.size w w' := by
  have hz := bs_size l
  have hsm := sm_len 9 l.length
  have hz2 : (bs (small l.length)).size ≤ 10 := by rw [bs_size]; exact hsm
  have HT : Hid (bs (small l.length) ++ bs l = bs (text l)) := Lib.hid (bs_append _ _)
  have HS : Hid (∀ W, Calls Try.prog 32 #[.int .u64 (l.length : Int)] W fun e w' => e = .returned (.string (bs (small l.length))) ∧ Below W.heap.size W w') := Lib.hid (fun W => small_any l.length W (by omega))
  obtain ⟨S, hS⟩ : ∃ S, bs (small l.length) = S := ⟨_, rfl⟩
  obtain ⟨X, hX⟩ : ∃ X, bs l = X := ⟨_, rfl⟩
  obtain ⟨n, hn⟩ : ∃ n, l.length = n := ⟨_, rfl⟩
  rw [hS, hX] at HT
  rw [hS] at HS hz2
  rw [hn] at HS hz hl
  rw [hX] at hz ⊢
  clear hS hX hsm hn
  go_enter Try.func24, Try.ntmps24
  go_wp2_with fail
  refine (HS.out _).mono ?_
  rintro e w1 ⟨rfl, hb1⟩
  go_wp2
  go_ret
  exact ⟨by rw [← HT.out]; rfl, hb1⟩
set_option maxHeartbeats 400000 in
theorem checked_great (l : List UInt8) (w : World) (hl : l.length ≤ 281474976710656) :
    Calls Try.prog 20 #[.string (bs l)] w fun e w' => e = .returned (.string (bs (l ++ ctail l))) ∧ Below w.heap.size w w' := by
  have hz := bs_size l
  have hz2 : (bs (ctail l)).size = 4 := by rw [bs_size, ctail_length]
  have HT : Hid (bs l ++ bs (ctail l) = bs (l ++ ctail l)) := Lib.hid (bs_append _ _)
  have HS : Hid (∀ W, Calls Try.prog 26 #[.string (bs l)] W fun e w' => e = .returned (.string (bs (ctail l))) ∧ Below W.heap.size W w') := Lib.hid (fun W => tail_any (bs l) W (by unfold maxLen; omega))
  obtain ⟨S, hS⟩ : ∃ S, bs (ctail l) = S := ⟨_, rfl⟩
  obtain ⟨X, hX⟩ : ∃ X, bs l = X := ⟨_, rfl⟩
  rw [hS, hX] at HT HS
  rw [hS] at hz2
  rw [hX] at hz ⊢
  clear hS hX
  go_enter Try.func20, Try.ntmps20
  go_wp2_with fail
  refine (HS.out _).mono ?_
  rintro e w1 ⟨rfl, hb1⟩
  go_wp2
  go_ret
  exact ⟨by rw [← HT.out]; rfl, hb1⟩
set_option maxHeartbeats 400000 in
theorem put_great (l : List UInt8) (w : World) (hl : l.length ≤ 140737488355328) :
    Calls Try.prog 15 #[.string (bs l)] w fun e w' => e = .returned (.string (bs (frm l))) ∧ Below w.heap.size w w' := by
  have HT := Lib.hid (fun W => text_great l W hl)
  have HC := Lib.hid (fun W => checked_great (text l) W (by have := text_le l; omega))
  go_enter Try.func15, Try.ntmps15
  go_wp2_with fail
  refine (HT.out _).mono ?_
  rintro e w1 ⟨rfl, hb1⟩
  go_wp2_with fail
  refine (HC.out _).mono ?_
  rintro e w2 ⟨rfl, hb2⟩
  go_wp2
  go_ret
  exact ⟨rfl, later hb1 hb2⟩
/-! The plain law: one byte behind the number is another one. -/
theorem getF_set (b r : List UInt8) (m : Nat) (y : UInt8) (most : Int) (h : b.length < 9223372036854775808) (hm : (b.length : Int) ≤ most) (h1 : (small b.length).length ≤ m) (h2 : m < (frm b).length)
    (hy : (frm b ++ r)[m]? ≠ some y) : (getF ((frm b ++ r).set m y) most).2.2 = 2 := by
  have hfl := frm_len b
  have hall : frm b ++ r = small b.length ++ (b ++ (ctail (text b) ++ r)) := by unfold frm text; simp
  rw [hall] at hy ⊢
  rw [List.getElem?_append_right h1] at hy
  rw [List.set_append_right _ _ h1]
  obtain ⟨i, hi⟩ : ∃ i, m - (small b.length).length = i := ⟨_, rfl⟩
  rw [hi] at hy ⊢
  by_cases hin : i < b.length
  · rw [List.getElem?_append_left hin] at hy
    rw [List.set_append_left _ _ hin]
    have hb : b = b.take i ++ b[i] :: b.drop (i + 1) := by rw [List.getElem_cons_drop]; exact (List.take_append_drop i b).symm
    have hs : b.set i y = b.take i ++ y :: b.drop (i + 1) := by rw [List.set_eq_take_append_cons_drop, if_pos hin]
    have hne : b[i] ≠ y := by intro e; apply hy; rw [List.getElem?_eq_getElem hin, e]
    rw [hs]
    have key := getF_body (b.take i) (b.drop (i + 1)) r b[i] y most hne (by rw [← hb]; exact h) (by rw [← hb]; exact hm)
    rw [← hb] at key
    simpa using key
  · rw [List.getElem?_append_right (by omega)] at hy
    rw [List.set_append_right _ _ (by omega)]
    obtain ⟨j, hj⟩ : ∃ j, i - b.length = j := ⟨_, rfl⟩
    rw [hj] at hy ⊢
    have hj4 : j < (ctail (text b)).length := by rw [ctail_length]; omega
    rw [List.getElem?_append_left hj4] at hy
    rw [List.set_append_left _ _ hj4]
    have key := getF_tail b ((ctail (text b)).set j y) r most (by rw [List.length_set, ctail_length]) (by
      intro e
      apply hy
      rw [← e, List.getElem?_set_self hj4]) h hm
    have e2 : text b ++ (ctail (text b)).set j y ++ r = small b.length ++ (b ++ ((ctail (text b)).set j y ++ r)) := by unfold text; simp
    rw [e2] at key
    exact key
theorem xor_ne (a b : UInt8) (h : b ≠ 0) : a ^^^ b ≠ a := by
  intro e
  apply h
  have := congrArg (a ^^^ ·) e
  simpa [← UInt8.xor_assoc] using this
theorem xor_bytes (a b : UInt8) : bits .xor .u8 (a.toNat : Int) (b.toNat : Int) = ((a ^^^ b).toNat : Int) := by
  have h1 : (BitVec.ofInt 8 (a.toNat : Int)).toNat = a.toNat := by rw [BitVec.ofInt_natCast, BitVec.toNat_ofNat]; exact Nat.mod_eq_of_lt a.toNat_lt
  have h2 : (BitVec.ofInt 8 (b.toNat : Int)).toNat = b.toNat := by rw [BitVec.ofInt_natCast, BitVec.toNat_ofNat]; exact Nat.mod_eq_of_lt b.toNat_lt
  have h3 : (a ^^^ b).toNat = a.toNat ^^^ b.toNat := UInt8.toNat_xor a b
  have h4 := (a ^^^ b).toNat_lt
  show IntKind.u8.wrap ((BitVec.ofInt 8 (a.toNat : Int) ^^^ BitVec.ofInt 8 (b.toNat : Int)).toNat : Int) = _
  rw [BitVec.toNat_xor, h1, h2, ← h3, IntKind.wrap_u8]
  omega
/-! A text as bytes, and back. -/
theorem bytes_world (w : World) (L : List UInt8) : ∃ W c, (convert 9 39 (.string (bs L))).run Try.prog w = .ok (.slice (some ⟨w.heap.size, 0, none⟩) L.length c) W ∧ Below w.heap.size w W ∧ W.heap.size = w.heap.size + 1 ∧
    (∀ j (hj : j < L.length), W.cell? ⟨w.heap.size, j, none⟩ = some (.int .u8 (L[j].toNat : Int))) ∧ (∀ j, j < L.length → W.frozen? ⟨w.heap.size, j, none⟩ = false) := by
  have hz := bs_size L
  have h := Lib.run_convert_string_bytes (P := Try.prog) w 9 39 5 (bs L) Try.underlying9 Try.underlying39 Try.underlying5
  rw [hz] at h
  refine ⟨_, _, h, ⟨?_, ?_, ?_, ?_, fun k hk => Lib.bytesWorld_at_old _ _ _ _ hk⟩, Lib.bytesWorld_size _ _ _, fun j hj => ?_, fun j hj => ?_⟩
  · simp [Lib.bytesWorld, World.freeze, World.alloc, World.drew, -World.alloc_eq, -World.drew_eq]
  · simp [Lib.bytesWorld, World.freeze, World.alloc, World.drew, -World.alloc_eq, -World.drew_eq]
  · simp [Lib.bytesWorld, World.freeze, World.alloc, World.drew, -World.alloc_eq, -World.drew_eq]
  · rw [Lib.bytesWorld_size]; omega
  · rw [Lib.bytesWorld_cell _ _ _ _ (by rw [hz]; exact hj)]
    rw [bs_list, List.getD_eq_getElem?_getD, List.getElem?_eq_getElem hj]; rfl
  · unfold World.frozen?
    rw [Lib.bytesWorld_at_new]
    have : j < (Lib.bytesCells w 5 (bs L)).size := by unfold Lib.bytesCells; simp [bs]; omega
    simp; omega
theorem bytes_back (W : World) (g c m : Nat) (L : List UInt8) (y : UInt8) (hm : m < L.length) (hc : ∀ j (hj : j < L.length), W.cell? ⟨g, j, none⟩ = some (.int .u8 (L[j].toNat : Int))) :
    (convert 39 9 (.slice (some ⟨g, 0, none⟩) L.length c)).run Try.prog (W.setCell ⟨g, m, none⟩ (.int .u8 (y.toNat : Int))) = .ok (.string (bs (L.set m y))) (W.setCell ⟨g, m, none⟩ (.int .u8 (y.toNat : Int))) := by
  have h := run_convert_bytes_back (P := Try.prog) (W.setCell ⟨g, m, none⟩ (.int .u8 (y.toNat : Int))) 39 9 5 ⟨g, 0, none⟩ c (L.set m y) Try.underlying39 Try.underlying5 Try.underlying9 ?_
  · rw [List.length_set] at h; exact h
  intro j hj
  rw [List.length_set] at hj
  have ha : (⟨g, 0, none⟩ : Addr).add j = ⟨g, j, none⟩ := by unfold Addr.add; split <;> simp_all
  rw [ha]
  by_cases e : m = j
  · subst e
    rw [World.cell?_setCell_same _ _ _ (hc m hm), List.getElem_set_self]
  · rw [World.cell?_setCell_other _ _ _ _ (fun h => e (congrArg Addr.off h)), hc j hj, List.getElem_set_ne e]
end Go.Proofs.Ytmaehbcjcifchaa.FrW
