/-
  VALUES AS BITS: Get, AS A WHOLE.
-/
import Derived.Test.YtboomamnenonoaaDoorVaGet
namespace Go.Proofs.YtboomamnenonoaaDoor.VaW
set_option linter.unusedVariables false
open Go.RowKit Go.Shelf BitsM BitsW VaM
theorem get_in (br : Nat) (B : ByteArray) (p : Nat) (s : Sv) (w : World) (hr : ReaderAt w br B p) (hs : B.size ≤ 68719476736) (hp : p ≤ 8 * B.size) (hok : okV s) (hN : s.1 ≤ 4398046511104) (hT : ∀ W, (∀ k, k < w.heap.size → k ≠ br → W.heap[k]? = w.heap[k]?) → Tab W) :
    Calls Tryd.prog 32 #[.pointer (some ⟨br, 0, none⟩), .agg #[.int .i64 (s.1 : Int), .int .u64 (s.2.1 : Int), .int .i64 (s.2.2.1 : Int), .int .i64 (s.2.2.2 : Int)]] w fun e w' => ∃ st ok q, e = .returned (.tuple #[.agg #[.int .i64 ((st : Sv).1 : Int), .int .u64 (st.2.1 : Int), .int .i64 (st.2.2.1 : Int), .int .i64 (st.2.2.2 : Int)], .bool ok]) ∧ ToldV (unpack B.data.toList) p s st ok q ∧ BitsW.Read w br B q w' := by
  by_cases h0 : s.1 = 0
  · exact get_first br B p s w hr hs hp hok hN hT h0
  · exact get_more br B p s w hr hs hp hok hN hT h0
theorem info_rd : (Tryd.prog.info? 63).map (·.size) = some 2 := by kernel_rfl
/-- What Get tells. -/
def gotV (S : List Bool) (p : Nat) (s : Sv) : Sv × Bool × Nat := match getV (S.drop p) s with
  | none => (s, false, p)
  | some (v, k) => (aftV s v, true, p + k)
theorem gotV_le {S : List Bool} {p : Nat} {s : Sv} (hs : okV s) (hp : p ≤ S.length) : (gotV S p s).2.2 ≤ S.length := by
  unfold gotV
  cases h : getV (S.drop p) s with
  | none => exact hp
  | some x =>
    obtain ⟨t, k⟩ := x
    obtain ⟨-, -, -, h4⟩ := put_get _ _ _ _ hs h
    rw [List.length_drop] at h4
    show p + k ≤ _; omega
theorem hread_later {W : World} {g Q : Nat} {B : ByteArray} (h : ReaderAt W g B Q) (hl : g < W.heap.size) (o : Obj) : ReaderAt (W.alloc o) g B Q :=
  (((Below.refl W.heap.size W).alloc (Nat.le_refl _) o).block g hl).trans h
set_option maxHeartbeats 4000000 in
theorem get_val (br : Nat) (B : ByteArray) (p : Nat) (s : Sv) (w : World) (hr : ReaderAt w br B p) (hs : B.size ≤ 68719476736) (hp : p ≤ 8 * B.size) (hok : okV s) (hN : s.1 ≤ 4398046511104) (hT : Tab w) :
    Calls Tryd.prog 21 #[.pointer (some ⟨br, 0, none⟩), .agg #[.int .i64 (s.1 : Int), .int .u64 (s.2.1 : Int), .int .i64 (s.2.2.1 : Int), .int .i64 (s.2.2.2 : Int)]] w fun e w' =>
      e = .returned (.tuple #[.agg #[.int .i64 ((gotV (unpack B.data.toList) p s).1.1 : Int), .int .u64 ((gotV (unpack B.data.toList) p s).1.2.1 : Int), .int .i64 ((gotV (unpack B.data.toList) p s).1.2.2.1 : Int), .int .i64 ((gotV (unpack B.data.toList) p s).1.2.2.2 : Int)], .bool (gotV (unpack B.data.toList) p s).2.1]) ∧ BitsW.Read w br B (gotV (unpack B.data.toList) p s).2.2 w' := by
  obtain ⟨S, hS⟩ : ∃ S, unpack B.data.toList = S := ⟨_, rfl⟩
  have HG : Hid (∀ W b2, ReaderAt W b2 B p → (∀ W2, (∀ k, k < W.heap.size → k ≠ b2 → W2.heap[k]? = W.heap[k]?) → Tab W2) → Calls Tryd.prog 32 #[.pointer (some ⟨b2, 0, none⟩), .agg #[.int .i64 (s.1 : Int), .int .u64 (s.2.1 : Int), .int .i64 (s.2.2.1 : Int), .int .i64 (s.2.2.2 : Int)]] W fun e w' => ∃ st ok q, e = .returned (.tuple #[.agg #[.int .i64 ((st : Sv).1 : Int), .int .u64 (st.2.1 : Int), .int .i64 (st.2.2.1 : Int), .int .i64 (st.2.2.2 : Int)], .bool ok]) ∧ ToldV S p s st ok q ∧ BitsW.Read W b2 B q w') :=
    Lib.hid fun W b2 h h2 => by rw [← hS]; exact get_in b2 B p s W h hs hp hok hN h2
  have HV := Lib.hid (fun W => valid_ok s W hok)
  have HTB := Lib.hid hT
  rw [hS]
  clear hS hT
  obtain ⟨G, hG⟩ : ∃ G, gotV S p s = G := ⟨_, rfl⟩
  rw [hG]
  obtain ⟨⟨x, y, z, u⟩, gok, Q⟩ := G
  have HGG := Lib.hid hG
  clear hG hok hN
  obtain ⟨N, V, L, T⟩ := s
  simp only [] at HV HG ⊢
  have HP := Lib.hid (((RM.start hr).alloc (VaObj (N, V, L, T))).alloc (VaObj (0, 0, 0, 0)))
  rw [box_v] at HP
  clear hr
  go_enter Tryd.func21, Tryd.ntmps21
  go_wp2_with fail
  refine (HV.out _).mono ?_
  rintro e w1 ⟨rfl, hb1⟩
  have HB1 := Lib.hid (show Below w.heap.size w w1 from (((Below.refl _ _).alloc (Nat.le_refl _) _).alloc (by simp) _).trans (hb1.mono (by simp; omega)))
  have HZ := Lib.hid (show w.heap.size + 1 < w1.heap.size by have := hb1.size; simp at this; omega)
  have h2 := HP.out.below hb1
  have hbox : VaAt w1 w.heap.size (N, V, L, T) := h2.at_ (by simp)
  have k0 := hbox.c0
  have k1 := hbox.c1
  have k2 := hbox.c2
  have k3 := hbox.c3
  simp only [] at k0 k1 k2 k3
  have d0 : w1.cell? ⟨br, 0, none⟩ = some (.string B) := h2.rd.f0
  have d1 : w1.cell? ⟨br, 1, none⟩ = some (.int .i64 (p : Int)) := h2.rd.f1
  have hPA := h2.alloc (.cells #[.string B, .int .i64 (p : Int)] 63 (0, 0))
  have hboxA : VaAt (w1.alloc (.cells #[.string B, .int .i64 (p : Int)] 63 (0, 0))) w.heap.size (N, V, L, T) := hPA.at_ (by simp)
  have a0 := hboxA.c0
  have a1 := hboxA.c1
  have a2 := hboxA.c2
  have a3 := hboxA.c3
  simp only [] at a0 a1 a2 a3
  have HPA := Lib.hid hPA
  clear HP HV hb1 hbox h2 hPA hboxA
  go_wp2_with fail
  have hrdA : ReaderAt (w1.alloc (.cells #[.string B, .int .i64 (p : Int)] 63 (0, 0))) w1.heap.size B p := HPA.out.at_ (by simp)
  have hTA : ∀ W2 : World, (∀ k, k < (w1.alloc (.cells #[.string B, .int .i64 (p : Int)] 63 (0, 0))).heap.size → k ≠ w1.heap.size → W2.heap[k]? = (w1.alloc (.cells #[.string B, .int .i64 (p : Int)] 63 (0, 0))).heap[k]?) → Tab W2 := by
    intro W2 h
    have hsz := HB1.out.size
    refine HTB.out.of_blocks fun k hk => ?_
    rw [h k (by simp; omega) (by omega)]
    exact (HB1.out.alloc hsz _).block k hk
  refine (HG.out _ _ hrdA hTA).mono ?_
  rintro e w4 ⟨⟨x1, x2, x3, x4⟩, ok, q, rfl, htold, hread⟩
  have HP4 := Lib.hid (HPA.out.other (fun x hx => by have := HZ.out; simp at hx; rcases hx with rfl | rfl <;> (show _ ≠ w1.heap.size; simp; omega)) hread)
  have HR4 := Lib.hid hread.rd
  have HL4 := Lib.hid (show w1.heap.size < w4.heap.size by have := hread.size; simp at this; omega)
  clear hrdA hTA hread HPA HG d0 d1 a0 a1 a2 a3 k0 k1 k2 k3
  cases hg : getV (S.drop p) (N, V, L, T) with
  | none =>
    obtain rfl : ok = false := by unfold ToldV at htold; rw [hg] at htold; exact htold
    have hG : ((N, V, L, T), false, p) = ((x, y, z, u), gok, Q) := by rw [← HGG.out]; unfold gotV; rw [hg]
    simp only [Prod.mk.injEq] at hG
    obtain ⟨⟨rfl, rfl, rfl, rfl⟩, rfl, rfl⟩ := hG
    have hP5 := HP4.out.alloc (VaObj (x1, x2, x3, x4))
    have hbox : VaAt (w4.alloc (.cells #[.int .i64 (x1 : Int), .int .u64 (x2 : Int), .int .i64 (x3 : Int), .int .i64 (x4 : Int)] 31)) w.heap.size (N, V, L, T) := hP5.at_ (by simp)
    have c0 := hbox.c0
    have c1 := hbox.c1
    have c2 := hbox.c2
    have c3 := hbox.c3
    simp only [] at c0 c1 c2 c3
    have HP5 : Hid (RM w (w4.alloc (.cells #[.int .i64 (x1 : Int), .int .u64 (x2 : Int), .int .i64 (x3 : Int), .int .i64 (x4 : Int)] 31)) br B p _) := Lib.hid hP5
    clear htold hg hbox hP5 HGG
    have hres : VaAt (w4.alloc (.cells #[.int .i64 (x1 : Int), .int .u64 (x2 : Int), .int .i64 (x3 : Int), .int .i64 (x4 : Int)] 31)) (w.heap.size + 1) (0, 0, 0, 0) := HP5.out.at_ (by simp)
    go_wp2_with (refine wpList_store_row rfl 31 _ _ rfl (w.heap.size + 1) #[.int .i64 (N : Int), .int .u64 (V : Int), .int .i64 (L : Int), .int .i64 (T : Int)] rfl rfl 31 _ hres info_va rfl (by simp [Value.oneCell']) ?_)
    have hr2 : ((w4.alloc (.cells #[.int .i64 (x1 : Int), .int .u64 (x2 : Int), .int .i64 (x3 : Int), .int .i64 (x4 : Int)] 31)).setRow (w.heap.size + 1) #[.int .i64 (N : Int), .int .u64 (V : Int), .int .i64 (L : Int), .int .i64 (T : Int)]).heap[w.heap.size + 1]? = some (.cells #[.int .i64 (N : Int), .int .u64 (V : Int), .int .i64 (L : Int), .int .i64 (T : Int)] 31 (0, 0)) := setRow_heap (w4.alloc (.cells #[.int .i64 (x1 : Int), .int .u64 (x2 : Int), .int .i64 (x3 : Int), .int .i64 (x4 : Int)] 31)) _ _ _ _ _ hres
    have r0 : ((w4.alloc (.cells #[.int .i64 (x1 : Int), .int .u64 (x2 : Int), .int .i64 (x3 : Int), .int .i64 (x4 : Int)] 31)).setRow (w.heap.size + 1) #[.int .i64 (N : Int), .int .u64 (V : Int), .int .i64 (L : Int), .int .i64 (T : Int)]).cell? ⟨w.heap.size + 1, 0, none⟩ = #[.int .i64 (N : Int), .int .u64 (V : Int), .int .i64 (L : Int), .int .i64 (T : Int)][0]? := by rw [cell_of_row _ _ _ _ _ _ hr2]
    have r1 : ((w4.alloc (.cells #[.int .i64 (x1 : Int), .int .u64 (x2 : Int), .int .i64 (x3 : Int), .int .i64 (x4 : Int)] 31)).setRow (w.heap.size + 1) #[.int .i64 (N : Int), .int .u64 (V : Int), .int .i64 (L : Int), .int .i64 (T : Int)]).cell? ⟨w.heap.size + 1, 1, none⟩ = #[.int .i64 (N : Int), .int .u64 (V : Int), .int .i64 (L : Int), .int .i64 (T : Int)][1]? := by rw [cell_of_row _ _ _ _ _ _ hr2]
    have r2 : ((w4.alloc (.cells #[.int .i64 (x1 : Int), .int .u64 (x2 : Int), .int .i64 (x3 : Int), .int .i64 (x4 : Int)] 31)).setRow (w.heap.size + 1) #[.int .i64 (N : Int), .int .u64 (V : Int), .int .i64 (L : Int), .int .i64 (T : Int)]).cell? ⟨w.heap.size + 1, 2, none⟩ = #[.int .i64 (N : Int), .int .u64 (V : Int), .int .i64 (L : Int), .int .i64 (T : Int)][2]? := by rw [cell_of_row _ _ _ _ _ _ hr2]
    have r3 : ((w4.alloc (.cells #[.int .i64 (x1 : Int), .int .u64 (x2 : Int), .int .i64 (x3 : Int), .int .i64 (x4 : Int)] 31)).setRow (w.heap.size + 1) #[.int .i64 (N : Int), .int .u64 (V : Int), .int .i64 (L : Int), .int .i64 (T : Int)]).cell? ⟨w.heap.size + 1, 3, none⟩ = #[.int .i64 (N : Int), .int .u64 (V : Int), .int .i64 (L : Int), .int .i64 (T : Int)][3]? := by rw [cell_of_row _ _ _ _ _ _ hr2]
    simp only [List.getElem?_toArray, List.getElem?_cons_zero, List.getElem?_cons_succ] at r0 r1 r2 r3
    refine bodyPost_ret (v := .tuple #[.agg #[.int .i64 (N : Int), .int .u64 (V : Int), .int .i64 (L : Int), .int .i64 (T : Int)], .bool false]) ?_ rfl ⟨rfl, (HP5.out.setOwn (o := VaObj (0, 0, 0, 0)) (by simp) _).read⟩
    simp [results, Tryd.results21, go_sem, r0, r1, r2, r3]
  | some r =>
    obtain ⟨t, k⟩ := r
    obtain ⟨rfl, hst, rfl⟩ : ok = true ∧ (x1, x2, x3, x4) = aftV (N, V, L, T) t ∧ q = p + k := by unfold ToldV at htold; rw [hg] at htold; exact htold
    have hG : (aftV (N, V, L, T) t, true, p + k) = ((x, y, z, u), gok, Q) := by rw [← HGG.out]; unfold gotV; rw [hg]
    rw [← hst] at hG
    simp only [Prod.mk.injEq] at hG
    obtain ⟨⟨rfl, rfl, rfl, rfl⟩, rfl, hQ⟩ := hG
    rw [hQ] at HR4
    have hP5 := HP4.out.alloc (VaObj (x1, x2, x3, x4))
    have hrd := hP5.rd
    have hR5 := (hread_later HR4.out HL4.out (VaObj (x1, x2, x3, x4)))
    have f0 : (w4.alloc (.cells #[.int .i64 (x1 : Int), .int .u64 (x2 : Int), .int .i64 (x3 : Int), .int .i64 (x4 : Int)] 31)).cell? ⟨w1.heap.size, 0, none⟩ = some (.string B) := hR5.f0
    have f1 : (w4.alloc (.cells #[.int .i64 (x1 : Int), .int .u64 (x2 : Int), .int .i64 (x3 : Int), .int .i64 (x4 : Int)] 31)).cell? ⟨w1.heap.size, 1, none⟩ = some (.int .i64 (Q : Int)) := hR5.f1
    have HP5 : Hid (RM w ((w4.alloc (.cells #[.int .i64 (x1 : Int), .int .u64 (x2 : Int), .int .i64 (x3 : Int), .int .i64 (x4 : Int)] 31)).setRow br #[.string B, .int .i64 (Q : Int)]) br B Q _) := Lib.hid (hP5.setReader Q)
    clear htold hg hP5 HGG hQ hst hR5 HP4 HR4
    go_wp2_with (first | (refine wpList_store_row rfl 63 _ _ rfl br #[.string B, .int .i64 (Q : Int)] rfl rfl 63 _ hrd info_rd rfl (by simp [Value.oneCell']) ?_; clear hrd f0 f1; generalize hw5 : (w4.alloc (.cells #[.int .i64 (x1 : Int), .int .u64 (x2 : Int), .int .i64 (x3 : Int), .int .i64 (x4 : Int)] 31)).setRow br #[.string B, .int .i64 (Q : Int)] = w5 at HP5 ⊢; clear hw5; have hnx : VaAt w5 w4.heap.size (x1, x2, x3, x4) := HP5.out.at_ (by simp); have c0 := hnx.c0; have c1 := hnx.c1; have c2 := hnx.c2; have c3 := hnx.c3; simp only [] at c0 c1 c2 c3; clear hnx; have hres : VaAt w5 (w.heap.size + 1) (0, 0, 0, 0) := HP5.out.at_ (by simp)) | (refine wpList_store_row rfl 31 _ _ rfl (w.heap.size + 1) #[.int .i64 (x1 : Int), .int .u64 (x2 : Int), .int .i64 (x3 : Int), .int .i64 (x4 : Int)] rfl rfl 31 _ hres info_va rfl (by simp [Value.oneCell']) ?_))
    have hr2 : (w5.setRow (w.heap.size + 1) #[.int .i64 (x1 : Int), .int .u64 (x2 : Int), .int .i64 (x3 : Int), .int .i64 (x4 : Int)]).heap[w.heap.size + 1]? = some (.cells #[.int .i64 (x1 : Int), .int .u64 (x2 : Int), .int .i64 (x3 : Int), .int .i64 (x4 : Int)] 31 (0, 0)) := setRow_heap w5 _ _ _ _ _ hres
    have r0 : (w5.setRow (w.heap.size + 1) #[.int .i64 (x1 : Int), .int .u64 (x2 : Int), .int .i64 (x3 : Int), .int .i64 (x4 : Int)]).cell? ⟨w.heap.size + 1, 0, none⟩ = #[.int .i64 (x1 : Int), .int .u64 (x2 : Int), .int .i64 (x3 : Int), .int .i64 (x4 : Int)][0]? := by rw [cell_of_row _ _ _ _ _ _ hr2]
    have r1 : (w5.setRow (w.heap.size + 1) #[.int .i64 (x1 : Int), .int .u64 (x2 : Int), .int .i64 (x3 : Int), .int .i64 (x4 : Int)]).cell? ⟨w.heap.size + 1, 1, none⟩ = #[.int .i64 (x1 : Int), .int .u64 (x2 : Int), .int .i64 (x3 : Int), .int .i64 (x4 : Int)][1]? := by rw [cell_of_row _ _ _ _ _ _ hr2]
    have r2 : (w5.setRow (w.heap.size + 1) #[.int .i64 (x1 : Int), .int .u64 (x2 : Int), .int .i64 (x3 : Int), .int .i64 (x4 : Int)]).cell? ⟨w.heap.size + 1, 2, none⟩ = #[.int .i64 (x1 : Int), .int .u64 (x2 : Int), .int .i64 (x3 : Int), .int .i64 (x4 : Int)][2]? := by rw [cell_of_row _ _ _ _ _ _ hr2]
    have r3 : (w5.setRow (w.heap.size + 1) #[.int .i64 (x1 : Int), .int .u64 (x2 : Int), .int .i64 (x3 : Int), .int .i64 (x4 : Int)]).cell? ⟨w.heap.size + 1, 3, none⟩ = #[.int .i64 (x1 : Int), .int .u64 (x2 : Int), .int .i64 (x3 : Int), .int .i64 (x4 : Int)][3]? := by rw [cell_of_row _ _ _ _ _ _ hr2]
    simp only [List.getElem?_toArray, List.getElem?_cons_zero, List.getElem?_cons_succ] at r0 r1 r2 r3
    refine bodyPost_ret (v := .tuple #[.agg #[.int .i64 (x1 : Int), .int .u64 (x2 : Int), .int .i64 (x3 : Int), .int .i64 (x4 : Int)], .bool true]) ?_ rfl ⟨rfl, (HP5.out.setOwn (o := VaObj (0, 0, 0, 0)) (by simp) _).read⟩
    simp [results, Tryd.results21, go_sem, r0, r1, r2, r3]
end Go.Proofs.YtboomamnenonoaaDoor.VaW
