/-
  THE STATEMENTS CrcBurst, CrcGood (alluviumlaw01): their walks.
-/
import Derived.Test.YtmjablbbgnbmgaaCrcLawB
import Derived.Test.YtmjablbbgnbmgaaOpen
import Derived.Test.YtmjablbbgnbmgaaCrcLawC
namespace Go.Proofs.Ytmjablbbgnbmgaa.CrcW
open Go.RowKit CrcM
theorem eq_arr_in (d : Nat) (x0 x1 x2 x3 y0 y1 y2 y3 : Int) (w : World) :
    (Op.equalIn (d + 2) 31 (.agg #[.int .u8 x0, .int .u8 x1, .int .u8 x2, .int .u8 x3]) (.agg #[.int .u8 y0, .int .u8 y1, .int .u8 y2, .int .u8 y3])).run Try.prog w = .ok (x0 == y0 && x1 == y1 && x2 == y2 && x3 == y3) w := by
  have hs : (sizeOf 5).run Try.prog w = .ok 1 w := by kernel_rfl
  have ha : (isAgg 5).run Try.prog w = .ok false w := by kernel_rfl
  have he := fun a b => run_equalIn_int (P := Try.prog) w d 5 .u8 .u8 a b Try.underlying5
  have hr : List.range' 0 4 1 = [0, 1, 2, 3] := rfl
  unfold Op.equalIn
  simp only [Sem.run_bind, run_underlying Try.underlying31, Result.andThen_ok, hs]
  simp [Std.Legacy.Range.forIn_eq_forIn_range', Std.Legacy.Range.size, hr, part, Sem.run_bind, ha, he, Sem.run_ite, Result.andThen_ok]
  by_cases h0 : x0 = y0 <;> by_cases h1 : x1 = y1 <;> by_cases h2 : x2 = y2 <;> by_cases h3 : x3 = y3 <;> simp [h0, h1, h2, h3]
theorem eq_arr4 (x0 x1 x2 x3 y0 y1 y2 y3 : Int) (w : World) :
    (Op.equalIn 10000 31 (.agg #[.int .u8 x0, .int .u8 x1, .int .u8 x2, .int .u8 x3]) (.agg #[.int .u8 y0, .int .u8 y1, .int .u8 y2, .int .u8 y3])).run Try.prog w = .ok (x0 == y0 && x1 == y1 && x2 == y2 && x3 == y3) w :=
  eq_arr_in 9998 x0 x1 x2 x3 y0 y1 y2 y3 w
set_option maxHeartbeats 2000000 in
theorem crcBurst_in (a b : ByteArray) (x0 x1 x2 x3 y0 y1 y2 y3 : UInt8) (w : World) (ha : a.size ≤ 600) (hb : b.size ≤ 600) (hne : ¬ (x0 = y0 ∧ x1 = y1 ∧ x2 = y2 ∧ x3 = y3)) :
    Calls Try.prog 5 #[.string a, .agg #[.int .u8 (x0.toNat : Int), .int .u8 (x1.toNat : Int), .int .u8 (x2.toNat : Int), .int .u8 (x3.toNat : Int)], .agg #[.int .u8 (y0.toNat : Int), .int .u8 (y1.toNat : Int), .int .u8 (y2.toNat : Int), .int .u8 (y3.toNat : Int)], .string b] w fun e w' => e = .returned (.bool true) ∧ Below w.heap.size w w' := by
  have ha' : ¬ (600 : Int) < (a.size : Int) := by omega
  have hb' : ¬ (600 : Int) < (b.size : Int) := by omega
  go_enter Try.func5, Try.ntmps5
  go_wp2_with fail
  refine (works_any _).mono ?_
  rintro e w1 ⟨rfl, hb1⟩
  have hX : Holds w1 w.heap.size 31 [x0, x1, x2, x3] := by
    unfold Holds; rw [hb1.block _ (by simp; omega), Below.heap_alloc _ _ _ (by simp), heap_alloc_new]; rfl
  have hY : Holds w1 (w.heap.size + 1) 31 [y0, y1, y2, y3] := by
    unfold Holds; rw [hb1.block _ (by simp), heap_alloc2_new]; rfl
  have hw1 : Below w.heap.size w w1 := (((Below.refl _ w).alloc (Nat.le_refl _) _).alloc (by simp) _).trans (hb1.mono (by simp; omega))
  clear hb1
  have cX : ∀ i (hi : i < 4), w1.cell? ⟨w.heap.size, i, none⟩ = some (.int .u8 (([x0, x1, x2, x3][i]'hi).toNat : Int)) := fun i hi => by
    rw [cell_of_row _ _ i _ _ _ hX, bc_get hi]; simp [hi]
  have cY : ∀ i (hi : i < 4), w1.cell? ⟨w.heap.size + 1, i, none⟩ = some (.int .u8 (([y0, y1, y2, y3][i]'hi).toNat : Int)) := fun i hi => by
    rw [cell_of_row _ _ i _ _ _ hY, bc_get hi]; simp [hi]
  have cX0 := cX 0 (by omega)
  have cX1 := cX 1 (by omega)
  have cX2 := cX 2 (by omega)
  have cX3 := cX 3 (by omega)
  have cY0 := cY 0 (by omega)
  have cY1 := cY 1 (by omega)
  have cY2 := cY 2 (by omega)
  have cY3 := cY 3 (by omega)
  clear cX cY
  simp only [List.getElem_cons_zero, List.getElem_cons_succ] at cX0 cX1 cX2 cX3 cY0 cY1 cY2 cY3
  have vX := hX.conv (P := Try.prog) Try.underlying32 Try.underlying5 Try.underlying9 4 rfl 4
  have vY := hY.conv (P := Try.prog) Try.underlying32 Try.underlying5 Try.underlying9 4 rfl 4
  clear hX hY
  have hq := eq_arr4 (x0.toNat : Int) x1.toNat x2.toNat x3.toNat y0.toNat y1.toNat y2.toNat y3.toNat w1
  have hf : ((x0.toNat : Int) == (y0.toNat : Int) && (x1.toNat : Int) == (y1.toNat : Int) && (x2.toNat : Int) == (y2.toNat : Int) && (x3.toNat : Int) == (y3.toNat : Int)) = false := by
    rw [Bool.eq_false_iff]
    intro h
    simp at h
    exact hne ⟨UInt8.toNat_inj.1 (by omega), UInt8.toNat_inj.1 (by omega), UInt8.toNat_inj.1 (by omega), UInt8.toNat_inj.1 (by omega)⟩
  rw [hf] at hq
  clear hf
  have hdiff : cof (a ++ ⟨#[x0, x1, x2, x3]⟩ ++ b).data.toList ≠ cof (a ++ ⟨#[y0, y1, y2, y3]⟩ ++ b).data.toList := by
    intro h
    rw [data_app, data_app, data_app, data_app] at h
    exact hne (of_burst _ _ h)
  have z1 : (a ++ (⟨#[x0, x1, x2, x3]⟩ : ByteArray) ++ b).size ≤ 1204 := by
    rw [app_size, app_size, show (⟨#[x0, x1, x2, x3]⟩ : ByteArray).size = 4 from rfl]; omega
  have z2 : (a ++ (⟨#[y0, y1, y2, y3]⟩ : ByteArray) ++ b).size ≤ 1204 := by
    rw [app_size, app_size, show (⟨#[y0, y1, y2, y3]⟩ : ByteArray).size = 4 from rfl]; omega
  go_wp2_with fail
  generalize a ++ (⟨#[x0, x1, x2, x3]⟩ : ByteArray) ++ b = one at *
  generalize a ++ (⟨#[y0, y1, y2, y3]⟩ : ByteArray) ++ b = two at *
  have m1 := small_size one (by omega)
  have m2 := small_size two (by omega)
  clear vX vY hq cX0 cX1 cX2 cX3 cY0 cY1 cY2 cY3
  obtain ⟨t, ht⟩ : ∃ t : ByteArray, t = ⟨(ctail one.data.toList).toArray⟩ := ⟨_, rfl⟩
  have zt : t.size = 4 := by rw [ht]; simp [ByteArray.size, ctail_length]
  have zt' : t.size ≤ 4 := by omega
  have z4 : 4 ≤ (two ++ t).size := by rw [app_size]; omega
  have m4 := small_size (two ++ t) (by rw [app_size]; omega)
  have hbad : ¬ Right (two ++ t).data.toList := by
    unfold Right
    rw [size_list, app_size, zt, show two.size + 4 - 4 = two.data.toList.length by rw [size_list]; omega, data_app, List.take_left, List.drop_left, ht]
    intro h
    exact hdiff (tail_inj h.symm)
  have hneq : (((cof one.data.toList).toNat : Int) != ((cof two.data.toList).toNat : Int)) = true := by
    rw [bne_iff_ne]
    intro h
    exact hdiff (BitVec.eq_of_toNat_eq (by omega))
  have Ht := Lib.hid ht
  have HB := Lib.hid hbad
  clear ht hbad zt hdiff hne
  refine (tail_any _ _ m1).mono ?_
  rintro e w2 ⟨rfl, hb2⟩
  rw [← Ht.out]
  go_wp2_with fail
  refine (good_no _ _ m4 z4 HB.out).mono ?_
  rintro e w3 ⟨rfl, hb3⟩
  go_wp2_with fail
  refine (of_any _ _ m1).mono ?_
  rintro e w4 ⟨rfl, hb4⟩
  go_wp2_with fail
  refine (of_any _ _ m2).mono ?_
  rintro e w5 ⟨rfl, hb5⟩
  go_wp2_with fail
  go_ret
  exact ⟨rfl, later (later (later (later hw1 hb2) hb3) hb4) hb5⟩
set_option maxHeartbeats 2000000 in
theorem crcBurst_same (a b : ByteArray) (x0 x1 x2 x3 : UInt8) (w : World) (ha : a.size ≤ 600) (hb : b.size ≤ 600) :
    Calls Try.prog 5 #[.string a, .agg #[.int .u8 (x0.toNat : Int), .int .u8 (x1.toNat : Int), .int .u8 (x2.toNat : Int), .int .u8 (x3.toNat : Int)], .agg #[.int .u8 (x0.toNat : Int), .int .u8 (x1.toNat : Int), .int .u8 (x2.toNat : Int), .int .u8 (x3.toNat : Int)], .string b] w fun e w' => e = .returned (.bool true) ∧ Below w.heap.size w w' := by
  have ha' : ¬ (600 : Int) < (a.size : Int) := by omega
  have hb' : ¬ (600 : Int) < (b.size : Int) := by omega
  go_enter Try.func5, Try.ntmps5
  go_wp2_with fail
  refine (works_any _).mono ?_
  rintro e w1 ⟨rfl, hb1⟩
  have hX : Holds w1 w.heap.size 31 [x0, x1, x2, x3] := by
    unfold Holds; rw [hb1.block _ (by simp; omega), Below.heap_alloc _ _ _ (by simp), heap_alloc_new]; rfl
  have hY : Holds w1 (w.heap.size + 1) 31 [x0, x1, x2, x3] := by
    unfold Holds; rw [hb1.block _ (by simp), heap_alloc2_new]; rfl
  have hw1 : Below w.heap.size w w1 := (((Below.refl _ w).alloc (Nat.le_refl _) _).alloc (by simp) _).trans (hb1.mono (by simp; omega))
  clear hb1
  have cX : ∀ i (hi : i < 4), w1.cell? ⟨w.heap.size, i, none⟩ = some (.int .u8 (([x0, x1, x2, x3][i]'hi).toNat : Int)) := fun i hi => by
    rw [cell_of_row _ _ i _ _ _ hX, bc_get hi]; simp [hi]
  have cY : ∀ i (hi : i < 4), w1.cell? ⟨w.heap.size + 1, i, none⟩ = some (.int .u8 (([x0, x1, x2, x3][i]'hi).toNat : Int)) := fun i hi => by
    rw [cell_of_row _ _ i _ _ _ hY, bc_get hi]; simp [hi]
  have cX0 := cX 0 (by omega)
  have cX1 := cX 1 (by omega)
  have cX2 := cX 2 (by omega)
  have cX3 := cX 3 (by omega)
  have cY0 := cY 0 (by omega)
  have cY1 := cY 1 (by omega)
  have cY2 := cY 2 (by omega)
  have cY3 := cY 3 (by omega)
  clear cX cY
  simp only [List.getElem_cons_zero, List.getElem_cons_succ] at cX0 cX1 cX2 cX3 cY0 cY1 cY2 cY3
  have vX := hX.conv (P := Try.prog) Try.underlying32 Try.underlying5 Try.underlying9 4 rfl 4
  have vY := hY.conv (P := Try.prog) Try.underlying32 Try.underlying5 Try.underlying9 4 rfl 4
  clear hX hY
  have hq := eq_arr4 (x0.toNat : Int) x1.toNat x2.toNat x3.toNat x0.toNat x1.toNat x2.toNat x3.toNat w1
  have hf : ((x0.toNat : Int) == (x0.toNat : Int) && (x1.toNat : Int) == (x1.toNat : Int) && (x2.toNat : Int) == (x2.toNat : Int) && (x3.toNat : Int) == (x3.toNat : Int)) = true := by
    simp
  rw [hf] at hq
  clear hf
  go_wp2_with fail
  go_ret
  exact ⟨rfl, hw1⟩
set_option maxHeartbeats 2000000 in
theorem crcBurst_outA (a b : ByteArray) (x0 x1 x2 x3 y0 y1 y2 y3 : UInt8) (w : World) (ha : 600 < a.size) :
    Calls Try.prog 5 #[.string a, .agg #[.int .u8 (x0.toNat : Int), .int .u8 (x1.toNat : Int), .int .u8 (x2.toNat : Int), .int .u8 (x3.toNat : Int)], .agg #[.int .u8 (y0.toNat : Int), .int .u8 (y1.toNat : Int), .int .u8 (y2.toNat : Int), .int .u8 (y3.toNat : Int)], .string b] w fun e w' => e = .returned (.bool true) ∧ Below w.heap.size w w' := by
  have ha' : (600 : Int) < (a.size : Int) := by omega
  go_enter Try.func5, Try.ntmps5
  go_wp2_with fail
  refine (works_any _).mono ?_
  rintro e w1 ⟨rfl, hb1⟩
  go_wp2_with fail
  go_ret
  exact ⟨rfl, (((Below.refl _ w).alloc (Nat.le_refl _) _).alloc (by simp) _).trans (hb1.mono (by simp; omega))⟩
set_option maxHeartbeats 2000000 in
theorem crcBurst_outB (a b : ByteArray) (x0 x1 x2 x3 y0 y1 y2 y3 : UInt8) (w : World) (ha : a.size ≤ 600) (hb : 600 < b.size) :
    Calls Try.prog 5 #[.string a, .agg #[.int .u8 (x0.toNat : Int), .int .u8 (x1.toNat : Int), .int .u8 (x2.toNat : Int), .int .u8 (x3.toNat : Int)], .agg #[.int .u8 (y0.toNat : Int), .int .u8 (y1.toNat : Int), .int .u8 (y2.toNat : Int), .int .u8 (y3.toNat : Int)], .string b] w fun e w' => e = .returned (.bool true) ∧ Below w.heap.size w w' := by
  have ha' : ¬ (600 : Int) < (a.size : Int) := by omega
  have hb' : (600 : Int) < (b.size : Int) := by omega
  go_enter Try.func5, Try.ntmps5
  go_wp2_with fail
  refine (works_any _).mono ?_
  rintro e w1 ⟨rfl, hb1⟩
  go_wp2_with fail
  go_ret
  exact ⟨rfl, (((Below.refl _ w).alloc (Nat.le_refl _) _).alloc (by simp) _).trans (hb1.mono (by simp; omega))⟩
theorem list4 {l : List UInt8} (h : l.length = 4) : ∃ x0 x1 x2 x3, l = [x0, x1, x2, x3] := by
  match l, h with
  | [x0, x1, x2, x3], _ => exact ⟨x0, x1, x2, x3, rfl⟩
theorem crcBurst_walk (a : ByteArray) (x y : List UInt8) (b : ByteArray) (_ : a.size ≤ maxLen) (hx : x.length = 4) (hy : y.length = 4) (_ : b.size ≤ maxLen) (w : World) :
    Calls Try.prog 5 #[.string a, .agg (byteCells x).toArray, .agg (byteCells y).toArray, .string b] w fun e w' => e = .returned (.bool true) ∧ Below w.heap.size w w' := by
  obtain ⟨x0, x1, x2, x3, rfl⟩ := list4 hx
  obtain ⟨y0, y1, y2, y3, rfl⟩ := list4 hy
  by_cases ha : 600 < a.size
  · exact crcBurst_outA a b x0 x1 x2 x3 y0 y1 y2 y3 w ha
  · by_cases hb : 600 < b.size
    · exact crcBurst_outB a b x0 x1 x2 x3 y0 y1 y2 y3 w (by omega) hb
    · by_cases he : x0 = y0 ∧ x1 = y1 ∧ x2 = y2 ∧ x3 = y3
      · obtain ⟨rfl, rfl, rfl, rfl⟩ := he
        exact crcBurst_same a b x0 x1 x2 x3 w (by omega) (by omega)
      · exact crcBurst_in a b x0 x1 x2 x3 y0 y1 y2 y3 w (by omega) (by omega) he
end Go.Proofs.Ytmjablbbgnbmgaa.CrcW
