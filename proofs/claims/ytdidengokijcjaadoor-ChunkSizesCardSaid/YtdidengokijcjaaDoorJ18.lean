/-
  VALUES AS BITS: Get, AS A WHOLE.
  VALUES AS BITS: All, Read, WALKED.
  label.Key: THE WALK.
  alluviumref03.Small, Text; alluviumref06.Key: THE WALKS.
-/
import Derived.Test.YtdidengokijcjaaDoorJ17
import Derived.Test.YtdidengokijcjaaDoorJ13
import Derived.Deep.RegionHeld3
/-
  VALUES AS BITS: Get, AS A WHOLE.
-/
namespace Go.Proofs.YtdidengokijcjaaDoor.VaW
set_option linter.unusedVariables false
open Go.RowKit Go.Shelf BitsM BitsW VaM
theorem get_in (br : Nat) (B : ByteArray) (p : Nat) (s : Sv) (w : World) (hr : ReaderAt w br B p) (hs : B.size ≤ 68719476736) (hp : p ≤ 8 * B.size) (hok : okV s) (hN : s.1 ≤ 4398046511104) (hT : ∀ W, (∀ k, k < w.heap.size → k ≠ br → W.heap[k]? = w.heap[k]?) → Tab W) :
    Calls Tryd.prog 93 #[.pointer (some ⟨br, 0, none⟩), .agg #[.int .i64 (s.1 : Int), .int .u64 (s.2.1 : Int), .int .i64 (s.2.2.1 : Int), .int .i64 (s.2.2.2 : Int)]] w fun e w' => ∃ st ok q, e = .returned (.tuple #[.agg #[.int .i64 ((st : Sv).1 : Int), .int .u64 (st.2.1 : Int), .int .i64 (st.2.2.1 : Int), .int .i64 (st.2.2.2 : Int)], .bool ok]) ∧ ToldV (unpack B.data.toList) p s st ok q ∧ BitsW.Read w br B q w' := by
  by_cases h0 : s.1 = 0
  · exact get_first br B p s w hr hs hp hok hN hT h0
  · exact get_more br B p s w hr hs hp hok hN hT h0
theorem info_rd : (Tryd.prog.info? 135).map (·.size) = some 2 := by kernel_rfl
/-- What Get tells. -/
def gotV (S : List Bool) (p : Nat) (s : Sv) : Sv × Bool × Nat := match getV (S.drop p) s with
  | none => (s, false, p)
  | some (v, k) => (aftV s v, true, p + k)
theorem gotV_le {S : List Bool} {p : Nat} {s : Sv} (hs : okV s) (hp : p ≤ S.length) : (gotV S p s).2.2 ≤ S.length := by
  unfold gotV
  cases h : getV (S.drop p) s with
  | none => exact hp
  | some x =>
    obtain ⟨t, k⟩ := x
    obtain ⟨-, -, -, h4⟩ := put_get _ _ _ _ hs h
    rw [List.length_drop] at h4
    show p + k ≤ _; omega
theorem hread_later {W : World} {g Q : Nat} {B : ByteArray} (h : ReaderAt W g B Q) (hl : g < W.heap.size) (o : Obj) : ReaderAt (W.alloc o) g B Q :=
  (((Below.refl W.heap.size W).alloc (Nat.le_refl _) o).block g hl).trans h
set_option maxHeartbeats 4000000 in
theorem get_val (br : Nat) (B : ByteArray) (p : Nat) (s : Sv) (w : World) (hr : ReaderAt w br B p) (hs : B.size ≤ 68719476736) (hp : p ≤ 8 * B.size) (hok : okV s) (hN : s.1 ≤ 4398046511104) (hT : Tab w) :
    Calls Tryd.prog 81 #[.pointer (some ⟨br, 0, none⟩), .agg #[.int .i64 (s.1 : Int), .int .u64 (s.2.1 : Int), .int .i64 (s.2.2.1 : Int), .int .i64 (s.2.2.2 : Int)]] w fun e w' =>
      e = .returned (.tuple #[.agg #[.int .i64 ((gotV (unpack B.data.toList) p s).1.1 : Int), .int .u64 ((gotV (unpack B.data.toList) p s).1.2.1 : Int), .int .i64 ((gotV (unpack B.data.toList) p s).1.2.2.1 : Int), .int .i64 ((gotV (unpack B.data.toList) p s).1.2.2.2 : Int)], .bool (gotV (unpack B.data.toList) p s).2.1]) ∧ BitsW.Read w br B (gotV (unpack B.data.toList) p s).2.2 w' := by
  obtain ⟨S, hS⟩ : ∃ S, unpack B.data.toList = S := ⟨_, rfl⟩
  have HG : Hid (∀ W b2, ReaderAt W b2 B p → (∀ W2, (∀ k, k < W.heap.size → k ≠ b2 → W2.heap[k]? = W.heap[k]?) → Tab W2) → Calls Tryd.prog 93 #[.pointer (some ⟨b2, 0, none⟩), .agg #[.int .i64 (s.1 : Int), .int .u64 (s.2.1 : Int), .int .i64 (s.2.2.1 : Int), .int .i64 (s.2.2.2 : Int)]] W fun e w' => ∃ st ok q, e = .returned (.tuple #[.agg #[.int .i64 ((st : Sv).1 : Int), .int .u64 (st.2.1 : Int), .int .i64 (st.2.2.1 : Int), .int .i64 (st.2.2.2 : Int)], .bool ok]) ∧ ToldV S p s st ok q ∧ BitsW.Read W b2 B q w') :=
    Lib.hid fun W b2 h h2 => by rw [← hS]; exact get_in b2 B p s W h hs hp hok hN h2
  have HV := Lib.hid (fun W => valid_ok s W hok)
  have HTB := Lib.hid hT
  rw [hS]
  clear hS hT
  obtain ⟨G, hG⟩ : ∃ G, gotV S p s = G := ⟨_, rfl⟩
  rw [hG]
  obtain ⟨⟨x, y, z, u⟩, gok, Q⟩ := G
  have HGG := Lib.hid hG
  clear hG hok hN
  obtain ⟨N, V, L, T⟩ := s
  simp only [] at HV HG ⊢
  have HP := Lib.hid (((RM.start hr).alloc (VaObj (N, V, L, T))).alloc (VaObj (0, 0, 0, 0)))
  rw [box_v] at HP
  clear hr
  go_enter Tryd.func81, Tryd.ntmps81
  go_wp2_with fail
  refine (HV.out _).mono ?_
  rintro e w1 ⟨rfl, hb1⟩
  have HB1 := Lib.hid (show Below w.heap.size w w1 from (((Below.refl _ _).alloc (Nat.le_refl _) _).alloc (by simp) _).trans (hb1.mono (by simp; omega)))
  have HZ := Lib.hid (show w.heap.size + 1 < w1.heap.size by have := hb1.size; simp at this; omega)
  have h2 := HP.out.below hb1
  have hbox : VaAt w1 w.heap.size (N, V, L, T) := h2.at_ (by simp)
  have k0 := hbox.c0
  have k1 := hbox.c1
  have k2 := hbox.c2
  have k3 := hbox.c3
  simp only [] at k0 k1 k2 k3
  have d0 : w1.cell? ⟨br, 0, none⟩ = some (.string B) := h2.rd.f0
  have d1 : w1.cell? ⟨br, 1, none⟩ = some (.int .i64 (p : Int)) := h2.rd.f1
  have hPA := h2.alloc (.cells #[.string B, .int .i64 (p : Int)] 135 (0, 0))
  have hboxA : VaAt (w1.alloc (.cells #[.string B, .int .i64 (p : Int)] 135 (0, 0))) w.heap.size (N, V, L, T) := hPA.at_ (by simp)
  have a0 := hboxA.c0
  have a1 := hboxA.c1
  have a2 := hboxA.c2
  have a3 := hboxA.c3
  simp only [] at a0 a1 a2 a3
  have HPA := Lib.hid hPA
  clear HP HV hb1 hbox h2 hPA hboxA
  go_wp2_with fail
  have hrdA : ReaderAt (w1.alloc (.cells #[.string B, .int .i64 (p : Int)] 135 (0, 0))) w1.heap.size B p := HPA.out.at_ (by simp)
  have hTA : ∀ W2 : World, (∀ k, k < (w1.alloc (.cells #[.string B, .int .i64 (p : Int)] 135 (0, 0))).heap.size → k ≠ w1.heap.size → W2.heap[k]? = (w1.alloc (.cells #[.string B, .int .i64 (p : Int)] 135 (0, 0))).heap[k]?) → Tab W2 := by
    intro W2 h
    have hsz := HB1.out.size
    refine HTB.out.of_blocks fun k hk => ?_
    rw [h k (by simp; omega) (by omega)]
    exact (HB1.out.alloc hsz _).block k hk
  refine (HG.out _ _ hrdA hTA).mono ?_
  rintro e w4 ⟨⟨x1, x2, x3, x4⟩, ok, q, rfl, htold, hread⟩
  have HP4 := Lib.hid (HPA.out.other (fun x hx => by have := HZ.out; simp at hx; rcases hx with rfl | rfl <;> (show _ ≠ w1.heap.size; simp; omega)) hread)
  have HR4 := Lib.hid hread.rd
  have HL4 := Lib.hid (show w1.heap.size < w4.heap.size by have := hread.size; simp at this; omega)
  clear hrdA hTA hread HPA HG d0 d1 a0 a1 a2 a3 k0 k1 k2 k3
  cases hg : getV (S.drop p) (N, V, L, T) with
  | none =>
    obtain rfl : ok = false := by unfold ToldV at htold; rw [hg] at htold; exact htold
    have hG : ((N, V, L, T), false, p) = ((x, y, z, u), gok, Q) := by rw [← HGG.out]; unfold gotV; rw [hg]
    simp only [Prod.mk.injEq] at hG
    obtain ⟨⟨rfl, rfl, rfl, rfl⟩, rfl, rfl⟩ := hG
    have hP5 := HP4.out.alloc (VaObj (x1, x2, x3, x4))
    have hbox : VaAt (w4.alloc (.cells #[.int .i64 (x1 : Int), .int .u64 (x2 : Int), .int .i64 (x3 : Int), .int .i64 (x4 : Int)] 106)) w.heap.size (N, V, L, T) := hP5.at_ (by simp)
    have c0 := hbox.c0
    have c1 := hbox.c1
    have c2 := hbox.c2
    have c3 := hbox.c3
    simp only [] at c0 c1 c2 c3
    have HP5 : Hid (RM w (w4.alloc (.cells #[.int .i64 (x1 : Int), .int .u64 (x2 : Int), .int .i64 (x3 : Int), .int .i64 (x4 : Int)] 106)) br B p _) := Lib.hid hP5
    clear htold hg hbox hP5 HGG
    have hres : VaAt (w4.alloc (.cells #[.int .i64 (x1 : Int), .int .u64 (x2 : Int), .int .i64 (x3 : Int), .int .i64 (x4 : Int)] 106)) (w.heap.size + 1) (0, 0, 0, 0) := HP5.out.at_ (by simp)
    go_wp2_with (refine wpList_store_row rfl 106 _ _ rfl (w.heap.size + 1) #[.int .i64 (N : Int), .int .u64 (V : Int), .int .i64 (L : Int), .int .i64 (T : Int)] rfl rfl 106 _ hres info_va rfl (by simp [Value.oneCell']) ?_)
    have hr2 : ((w4.alloc (.cells #[.int .i64 (x1 : Int), .int .u64 (x2 : Int), .int .i64 (x3 : Int), .int .i64 (x4 : Int)] 106)).setRow (w.heap.size + 1) #[.int .i64 (N : Int), .int .u64 (V : Int), .int .i64 (L : Int), .int .i64 (T : Int)]).heap[w.heap.size + 1]? = some (.cells #[.int .i64 (N : Int), .int .u64 (V : Int), .int .i64 (L : Int), .int .i64 (T : Int)] 106 (0, 0)) := setRow_heap (w4.alloc (.cells #[.int .i64 (x1 : Int), .int .u64 (x2 : Int), .int .i64 (x3 : Int), .int .i64 (x4 : Int)] 106)) _ _ _ _ _ hres
    have r0 : ((w4.alloc (.cells #[.int .i64 (x1 : Int), .int .u64 (x2 : Int), .int .i64 (x3 : Int), .int .i64 (x4 : Int)] 106)).setRow (w.heap.size + 1) #[.int .i64 (N : Int), .int .u64 (V : Int), .int .i64 (L : Int), .int .i64 (T : Int)]).cell? ⟨w.heap.size + 1, 0, none⟩ = #[.int .i64 (N : Int), .int .u64 (V : Int), .int .i64 (L : Int), .int .i64 (T : Int)][0]? := by rw [cell_of_row _ _ _ _ _ _ hr2]
    have r1 : ((w4.alloc (.cells #[.int .i64 (x1 : Int), .int .u64 (x2 : Int), .int .i64 (x3 : Int), .int .i64 (x4 : Int)] 106)).setRow (w.heap.size + 1) #[.int .i64 (N : Int), .int .u64 (V : Int), .int .i64 (L : Int), .int .i64 (T : Int)]).cell? ⟨w.heap.size + 1, 1, none⟩ = #[.int .i64 (N : Int), .int .u64 (V : Int), .int .i64 (L : Int), .int .i64 (T : Int)][1]? := by rw [cell_of_row _ _ _ _ _ _ hr2]
    have r2 : ((w4.alloc (.cells #[.int .i64 (x1 : Int), .int .u64 (x2 : Int), .int .i64 (x3 : Int), .int .i64 (x4 : Int)] 106)).setRow (w.heap.size + 1) #[.int .i64 (N : Int), .int .u64 (V : Int), .int .i64 (L : Int), .int .i64 (T : Int)]).cell? ⟨w.heap.size + 1, 2, none⟩ = #[.int .i64 (N : Int), .int .u64 (V : Int), .int .i64 (L : Int), .int .i64 (T : Int)][2]? := by rw [cell_of_row _ _ _ _ _ _ hr2]
    have r3 : ((w4.alloc (.cells #[.int .i64 (x1 : Int), .int .u64 (x2 : Int), .int .i64 (x3 : Int), .int .i64 (x4 : Int)] 106)).setRow (w.heap.size + 1) #[.int .i64 (N : Int), .int .u64 (V : Int), .int .i64 (L : Int), .int .i64 (T : Int)]).cell? ⟨w.heap.size + 1, 3, none⟩ = #[.int .i64 (N : Int), .int .u64 (V : Int), .int .i64 (L : Int), .int .i64 (T : Int)][3]? := by rw [cell_of_row _ _ _ _ _ _ hr2]
    simp only [List.getElem?_toArray, List.getElem?_cons_zero, List.getElem?_cons_succ] at r0 r1 r2 r3
    refine bodyPost_ret (v := .tuple #[.agg #[.int .i64 (N : Int), .int .u64 (V : Int), .int .i64 (L : Int), .int .i64 (T : Int)], .bool false]) ?_ rfl ⟨rfl, (HP5.out.setOwn (o := VaObj (0, 0, 0, 0)) (by simp) _).read⟩
    simp [results, Tryd.results81, go_sem, r0, r1, r2, r3]
  | some r =>
    obtain ⟨t, k⟩ := r
    obtain ⟨rfl, hst, rfl⟩ : ok = true ∧ (x1, x2, x3, x4) = aftV (N, V, L, T) t ∧ q = p + k := by unfold ToldV at htold; rw [hg] at htold; exact htold
    have hG : (aftV (N, V, L, T) t, true, p + k) = ((x, y, z, u), gok, Q) := by rw [← HGG.out]; unfold gotV; rw [hg]
    rw [← hst] at hG
    simp only [Prod.mk.injEq] at hG
    obtain ⟨⟨rfl, rfl, rfl, rfl⟩, rfl, hQ⟩ := hG
    rw [hQ] at HR4
    have hP5 := HP4.out.alloc (VaObj (x1, x2, x3, x4))
    have hrd := hP5.rd
    have hR5 := (hread_later HR4.out HL4.out (VaObj (x1, x2, x3, x4)))
    have f0 : (w4.alloc (.cells #[.int .i64 (x1 : Int), .int .u64 (x2 : Int), .int .i64 (x3 : Int), .int .i64 (x4 : Int)] 106)).cell? ⟨w1.heap.size, 0, none⟩ = some (.string B) := hR5.f0
    have f1 : (w4.alloc (.cells #[.int .i64 (x1 : Int), .int .u64 (x2 : Int), .int .i64 (x3 : Int), .int .i64 (x4 : Int)] 106)).cell? ⟨w1.heap.size, 1, none⟩ = some (.int .i64 (Q : Int)) := hR5.f1
    have HP5 : Hid (RM w ((w4.alloc (.cells #[.int .i64 (x1 : Int), .int .u64 (x2 : Int), .int .i64 (x3 : Int), .int .i64 (x4 : Int)] 106)).setRow br #[.string B, .int .i64 (Q : Int)]) br B Q _) := Lib.hid (hP5.setReader Q)
    clear htold hg hP5 HGG hQ hst hR5 HP4 HR4
    go_wp2_with (first | (refine wpList_store_row rfl 135 _ _ rfl br #[.string B, .int .i64 (Q : Int)] rfl rfl 135 _ hrd info_rd rfl (by simp [Value.oneCell']) ?_; clear hrd f0 f1; generalize hw5 : (w4.alloc (.cells #[.int .i64 (x1 : Int), .int .u64 (x2 : Int), .int .i64 (x3 : Int), .int .i64 (x4 : Int)] 106)).setRow br #[.string B, .int .i64 (Q : Int)] = w5 at HP5 ⊢; clear hw5; have hnx : VaAt w5 w4.heap.size (x1, x2, x3, x4) := HP5.out.at_ (by simp); have c0 := hnx.c0; have c1 := hnx.c1; have c2 := hnx.c2; have c3 := hnx.c3; simp only [] at c0 c1 c2 c3; clear hnx; have hres : VaAt w5 (w.heap.size + 1) (0, 0, 0, 0) := HP5.out.at_ (by simp)) | (refine wpList_store_row rfl 106 _ _ rfl (w.heap.size + 1) #[.int .i64 (x1 : Int), .int .u64 (x2 : Int), .int .i64 (x3 : Int), .int .i64 (x4 : Int)] rfl rfl 106 _ hres info_va rfl (by simp [Value.oneCell']) ?_))
    have hr2 : (w5.setRow (w.heap.size + 1) #[.int .i64 (x1 : Int), .int .u64 (x2 : Int), .int .i64 (x3 : Int), .int .i64 (x4 : Int)]).heap[w.heap.size + 1]? = some (.cells #[.int .i64 (x1 : Int), .int .u64 (x2 : Int), .int .i64 (x3 : Int), .int .i64 (x4 : Int)] 106 (0, 0)) := setRow_heap w5 _ _ _ _ _ hres
    have r0 : (w5.setRow (w.heap.size + 1) #[.int .i64 (x1 : Int), .int .u64 (x2 : Int), .int .i64 (x3 : Int), .int .i64 (x4 : Int)]).cell? ⟨w.heap.size + 1, 0, none⟩ = #[.int .i64 (x1 : Int), .int .u64 (x2 : Int), .int .i64 (x3 : Int), .int .i64 (x4 : Int)][0]? := by rw [cell_of_row _ _ _ _ _ _ hr2]
    have r1 : (w5.setRow (w.heap.size + 1) #[.int .i64 (x1 : Int), .int .u64 (x2 : Int), .int .i64 (x3 : Int), .int .i64 (x4 : Int)]).cell? ⟨w.heap.size + 1, 1, none⟩ = #[.int .i64 (x1 : Int), .int .u64 (x2 : Int), .int .i64 (x3 : Int), .int .i64 (x4 : Int)][1]? := by rw [cell_of_row _ _ _ _ _ _ hr2]
    have r2 : (w5.setRow (w.heap.size + 1) #[.int .i64 (x1 : Int), .int .u64 (x2 : Int), .int .i64 (x3 : Int), .int .i64 (x4 : Int)]).cell? ⟨w.heap.size + 1, 2, none⟩ = #[.int .i64 (x1 : Int), .int .u64 (x2 : Int), .int .i64 (x3 : Int), .int .i64 (x4 : Int)][2]? := by rw [cell_of_row _ _ _ _ _ _ hr2]
    have r3 : (w5.setRow (w.heap.size + 1) #[.int .i64 (x1 : Int), .int .u64 (x2 : Int), .int .i64 (x3 : Int), .int .i64 (x4 : Int)]).cell? ⟨w.heap.size + 1, 3, none⟩ = #[.int .i64 (x1 : Int), .int .u64 (x2 : Int), .int .i64 (x3 : Int), .int .i64 (x4 : Int)][3]? := by rw [cell_of_row _ _ _ _ _ _ hr2]
    simp only [List.getElem?_toArray, List.getElem?_cons_zero, List.getElem?_cons_succ] at r0 r1 r2 r3
    refine bodyPost_ret (v := .tuple #[.agg #[.int .i64 (x1 : Int), .int .u64 (x2 : Int), .int .i64 (x3 : Int), .int .i64 (x4 : Int)], .bool true]) ?_ rfl ⟨rfl, (HP5.out.setOwn (o := VaObj (0, 0, 0, 0)) (by simp) _).read⟩
    simp [results, Tryd.results81, go_sem, r0, r1, r2, r3]
end Go.Proofs.YtdidengokijcjaaDoor.VaW
/-
  VALUES AS BITS: All, Read, WALKED.
-/
namespace Go.Proofs.YtdidengokijcjaaDoor.VaW
set_option linter.unusedVariables false
open Go.RowKit Go.Shelf BitsM BitsW VaM
def encU (x : Nat) : List Value := [.int .u64 (x : Int)]
theorem u_cells {w : World} {A : Option Addr} {l : List Nat} (h : Lies w w.heap.size 1 encU A l) {k : Nat} (hk : k < l.length) :
    ∃ b o, A = some ⟨b, o, none⟩ ∧ ∀ W, Below w.heap.size w W → W.cell? ⟨b, o + k, none⟩ = some (.int .u64 (l[k] : Int)) := by
  obtain ⟨b, o, hA, _, hc⟩ := h.all hk
  exact ⟨b, o, hA, fun W hW => by have := hc W hW 0 _ rfl; simpa using this⟩
theorem PM.val {w W : World} {bw : Nat} {rb0 : Option Nat} {b : List Bool} {L : List (Nat × Obj)} (h : PM w W bw rb0 b L) (hl : b.length + 200 ≤ 1099511627776) (s : Sv) (v : Nat) (hs : okV s) (hv : v < 18446744073709551616) (hN : s.1 ≤ 4398046511104) (hT : Tab W) :
    Calls Tryd.prog 75 #[.pointer (some ⟨bw, 0, none⟩), .agg #[.int .i64 (s.1 : Int), .int .u64 (s.2.1 : Int), .int .i64 (s.2.2.1 : Int), .int .i64 (s.2.2.2 : Int)], .int .u64 (v : Int)] W fun e W' => e = .returned (.agg #[.int .i64 ((aftV s v).1 : Int), .int .u64 ((aftV s v).2.1 : Int), .int .i64 ((aftV s v).2.2.1 : Int), .int .i64 ((aftV s v).2.2.2 : Int)]) ∧ PM w W' bw rb0 (b ++ putV s v) L := by
  obtain ⟨rb, h1, h2⟩ := h.wr
  refine (put_val bw rb b s v W h1 hl hs hv hN hT).mono ?_
  rintro e W' ⟨rfl, q⟩
  exact ⟨rfl, h.step h2 q⟩
theorem begin_any (w : World) : Calls Tryd.prog 74 #[] w fun e w' => e = .returned (.agg #[.int .i64 0, .int .u64 0, .int .i64 64, .int .i64 0]) ∧ Below w.heap.size w w' := by
  go_enter Tryd.func74, Tryd.ntmps74
  go_wp2
  exact bodyPost_ret (v := .agg #[.int .i64 0, .int .u64 0, .int .i64 64, .int .i64 0]) (by simp [results, Tryd.results74, go_sem]) rfl ⟨rfl, (Below.refl _ _).alloc (Nat.le_refl _) _⟩
theorem ok_take {l : List Nat} (h : ∀ t ∈ l, okU t) (k : Nat) : okV (stV v0 (l.take k)) := okV_all okV0 (fun t ht => h t (List.mem_of_mem_take ht))
set_option maxHeartbeats 4000000 in
theorem all_any (A : Option Addr) (n c : Nat) (l : List Nat) (w : World) (hl : Comes w 1 encU okU A n c l) (hn : n ≤ 1000000) (hT : Tab w) :
    Calls Tryd.prog 62 #[.slice A n c] w fun e w' => e = .returned (.string ⟨(pack (bitsV v0 l)).toArray⟩) ∧ Below w.heap.size w w' := by
  have HL := Lib.hid hl
  have HTT : Hid (∀ W, Below w.heap.size w W → Tab W) := Lib.hid fun W h => hT.later h
  have hcap : c ≤ 9223372036854775807 := hl.cap
  have hle := hl.le
  clear hl hT
  go_enter Tryd.func62, Tryd.ntmps62
  go_wp2_with fail
  refine (newWriter_any _).mono ?_
  rintro e w1 ⟨rfl, hw1, hb1, hz1⟩
  have HP0 := Lib.hid (PM.start hw1)
  have HB1 := Lib.hid hb1
  clear hw1 hb1 hz1
  go_wp2_with fail
  refine (begin_any _).mono ?_
  rintro e w2 ⟨rfl, hb2⟩
  have HP2 := Lib.hid ((HP0.out.below hb2).alloc (VaObj v0))
  clear hb2 HP0
  go_wp2_with fail
  have HP2 : Hid (PM w1 (w2.alloc (VaObj v0)) w.heap.size none [] [(w2.heap.size, VaObj v0)]) := HP2
  go_loopw [6, 11] (fun _ v10 wr => ∃ k : Nat, k ≤ n ∧ v10 = .int .i64 k ∧ PM w1 wr w.heap.size none (bitsV v0 (l.take k)) [(w2.heap.size, VaObj (stV v0 (l.take k)))]) (fun _ v10 _ => n - (intOf v10).toNat)
  case atStart => exact ⟨0, Nat.zero_le _, rfl, HP2.out⟩
  case round =>
    obtain ⟨k, hk, rfl, ho⟩ := hrel
    have hln := HL.out.len
    by_cases hlt : k < n
    · have hkl : k < l.length := by omega
      obtain ⟨b, o, rfl, hcs⟩ := u_cells HL.out.lies hkl
      have hc0 := hcs _ (ho.since HB1.out (Nat.le_refl _))
      have htk := take_snocL l k hkl
      have e1 : bitsV v0 (l.take (k + 1)) = bitsV v0 (l.take k) ++ putV (stV v0 (l.take k)) l[k] := by rw [htk, bitsV_snoc]
      have e2 : stV v0 (l.take (k + 1)) = aftV (stV v0 (l.take k)) l[k] := by rw [htk, stV_snoc]
      have hbl := bitsV_len v0 (l.take k)
      have hNl := stV_N v0 (l.take k)
      have hoV := ok_take HL.out.ok k
      have hok : l[k] < 18446744073709551616 := HL.out.ok l[k] (List.getElem_mem hkl)
      rw [List.length_take, Nat.min_eq_left (by omega)] at hbl hNl
      have hst : VaAt wr w2.heap.size (stV v0 (l.take k)) := ho.at_ (by simp)
      have HTB := Lib.hid (HTT.out _ (ho.since HB1.out (Nat.le_refl _)))
      generalize l[k] = t at *
      generalize bitsV v0 (l.take k) = bs at *
      generalize stV v0 (l.take k) = s at *
      have HE := Lib.hid (And.intro e1 (And.intro e2 (And.intro hbl (And.intro hNl (And.intro hoV hok)))))
      have HO := Lib.hid ho
      obtain ⟨N, V, L, T⟩ := s
      have c0 := hst.c0
      have c1 := hst.c1
      have c2 := hst.c2
      have c3 := hst.c3
      simp only [] at c0 c1 c2 c3
      have i0 : (0 : Int) ≤ (k : Int) := by omega
      have i1 : (k : Int) < (n : Int) := by omega
      clear ho hln hcs htk e1 e2 hbl hst hNl hoV hok
      go_wp2_with fail
      refine (PM.val HO.out (by have := HE.out.2.2.1; omega) (N, V, L, T) t HE.out.2.2.2.2.1 HE.out.2.2.2.2.2 (by have h := HE.out.2.2.2.1; simp only [v0] at h ⊢; omega) HTB.out).mono ?_
      rintro e w3 ⟨rfl, p3⟩
      have HO3 := Lib.hid p3
      have hst : VaAt w3 w2.heap.size (N, V, L, T) := p3.at_ (by simp)
      rw [← HE.out.2.1]
      rw [← HE.out.1] at HO3
      generalize hs' : stV v0 (l.take (k + 1)) = s' at *
      obtain ⟨x, y, z, u⟩ := s'
      clear p3 c0 c1 c2 c3 HO hc0
      go_wp2_with (refine wpList_store_row rfl 106 _ _ rfl w2.heap.size #[.int .i64 (x : Int), .int .u64 (y : Int), .int .i64 (z : Int), .int .i64 (u : Int)] rfl rfl 106 _ hst info_va rfl (by simp [Value.oneCell']) ?_; have HO4 := Lib.hid (HO3.out.setOne #[.int .i64 (x : Int), .int .u64 (y : Int), .int .i64 (z : Int), .int .i64 (u : Int)]); clear hst; generalize w3.setRow w2.heap.size #[.int .i64 (x : Int), .int .u64 (y : Int), .int .i64 (z : Int), .int .i64 (u : Int)] = w4 at HO4 ⊢)
      go_roundw
      case rel =>
        exact ⟨k + 1, by omega, by go_num, by rw [hs']; exact HO4.out⟩
      case measure => simp [intOf]; omega
    · obtain rfl : k = n := by omega
      rw [List.take_of_length_le (by omega)] at ho
      have HO := Lib.hid ho
      have HB := Lib.hid (ho.since HB1.out (Nat.le_refl _))
      clear ho
      go_wp2_with fail
      refine HO.out.bytes.mono ?_
      rintro e w' ⟨rfl, rfl⟩
      go_wp2
      go_ret
      exact ⟨rfl, HB.out⟩
theorem elemU64 : Elem Tryd.prog 35 (.int .u64 0) 1 8 := by unfold Elem; kernel_rfl
theorem readV_step (S : List Bool) (p m : Nat) (s : Sv) : readV (S.drop p) (m + 1) s = match getV (S.drop p) s with | none => none | some (t, k) => (readV (S.drop (p + k)) m (aftV s t)).map fun x : List Nat × List Bool => (t :: x.1, x.2) := by
  show (match getV (S.drop p) s with | none => none | some (t, k) => (readV ((S.drop p).drop k) m (aftV s t)).map fun x : List Nat × List Bool => (t :: x.1, x.2)) = _
  cases getV (S.drop p) s with
  | none => rfl
  | some x => simp only [List.drop_drop]
set_option maxHeartbeats 4000000 in
theorem read_far (B : ByteArray) (n : Int) (w : World) (hn : n < 0 ∨ 10000 < n) :
    Calls Tryd.prog 65 #[.string B, .int .i64 n] w fun e w' => e = .returned (.tuple #[.slice none 0 0, .bool false]) ∧ Below w.heap.size w w' := by
  go_enter Tryd.func65, Tryd.ntmps65
  by_cases h : n < 0
  · go_wp2
    go_ret2
    exact ⟨rfl, Below.refl _ _⟩
  · have h2 : 10000 < n := by omega
    go_wp2
    go_ret2
    exact ⟨rfl, Below.refl _ _⟩
set_option maxHeartbeats 4000000 in
theorem read_near (B : ByteArray) (n : Nat) (w : World) (hs : B.size ≤ 68719476736) (hn : n ≤ 10000) (hT : Tab w) :
    Calls Tryd.prog 65 #[.string B, .int .i64 (n : Int)] w fun e w' => ∃ v, e = .returned (.tuple #[v, .bool (readB (unpack B.data.toList) n).isSome]) ∧ w'.ownsRow w.heap.size 35 1 v ((readB (unpack B.data.toList) n).getD []).length (((readB (unpack B.data.toList) n).getD []).flatMap encU) ∧ Below w.heap.size w w' := by
  obtain ⟨S, hS⟩ : ∃ S, unpack B.data.toList = S := ⟨_, rfl⟩
  have hSl : S.length = 8 * B.size := by rw [← hS, unpack_length]; simp
  have HTT : Hid (∀ W, Below w.heap.size w W → Tab W) := Lib.hid fun W h => hT.later h
  have HGT : Hid (∀ W br p s, ReaderAt W br B p → p ≤ 8 * B.size → okV s → s.1 ≤ 4398046511104 → Tab W → Calls Tryd.prog 81 #[.pointer (some ⟨br, 0, none⟩), .agg #[.int .i64 ((s : Sv).1 : Int), .int .u64 (s.2.1 : Int), .int .i64 (s.2.2.1 : Int), .int .i64 (s.2.2.2 : Int)]] W fun e w' =>
      e = .returned (.tuple #[.agg #[.int .i64 ((gotV S p s).1.1 : Int), .int .u64 ((gotV S p s).1.2.1 : Int), .int .i64 ((gotV S p s).1.2.2.1 : Int), .int .i64 ((gotV S p s).1.2.2.2 : Int)], .bool (gotV S p s).2.1]) ∧ BitsW.Read W br B (gotV S p s).2.2 w') :=
    Lib.hid fun W br p s h1 h2 h3 h4 h5 => by rw [← hS]; exact get_val br B p s W h1 hs h2 h3 h4 h5
  have HCL : Hid (∀ W br p, ReaderAt W br B p → p ≤ 8 * B.size → Calls Tryd.prog 78 #[.pointer (some ⟨br, 0, none⟩)] W fun e w' => e = .returned (.bool (cleanB (S.drop p))) ∧ Below W.heap.size W w') :=
    Lib.hid fun W br p h1 h2 => by rw [← hS]; exact clean_any br B p W h1 hs h2
  rw [hS]
  obtain ⟨R, hR⟩ : ∃ R, readB S n = R := ⟨_, rfl⟩
  rw [hR]
  have HR : Hid (R = (readV S n v0).bind fun x : List Nat × List Bool => if cleanB x.2 = true then some x.1 else none) := Lib.hid (by
    rw [← hR]; unfold readB; rw [if_neg (by omega), Int.toNat_natCast]; rfl)
  have HSL := Lib.hid hSl
  clear hS hSl hR hT
  go_enter Tryd.func65, Tryd.ntmps65
  go_wp2_with fail
  refine (newReader_any _ _).mono ?_
  rintro e w1 ⟨rfl, hw1, hb1, hz1⟩
  have HP0 := Lib.hid (RM.start hw1)
  have HB1 := Lib.hid (And.intro hb1 hz1)
  clear hw1 hb1 hz1
  go_wp2_with fail
  refine (begin_any _).mono ?_
  rintro e w2 ⟨rfl, hb2⟩
  have HP1 : Hid (RM w1 (w2.alloc (VaObj v0)) w.heap.size B 0 [(w2.heap.size, VaObj v0)]) := Lib.hid ((HP0.out.below hb2).alloc (VaObj v0))
  have HZ12 := Lib.hid hb2.size
  clear hb2 HP0
  go_wp2_with fail
  go_loopw [8, 9, 10, 21] (fun v8 _ _ v20 wr => ∃ (i p : Nat) (s : Sv) (o : List Nat), i ≤ n ∧ v20 = .int .i64 i ∧ p ≤ 8 * B.size ∧ o.length = i ∧ (okV s ∧ s.1 = i) ∧ readV S n v0 = (readV (S.drop p) (n - i) s).map (fun x : List Nat × List Bool => (o ++ x.1, x.2)) ∧
      RM w1 wr w.heap.size B p [(w2.heap.size, VaObj s)] ∧ w2.heap.size + 1 ≤ wr.heap.size ∧ wr.ownsRow (w2.heap.size + 1) 35 1 v8 o.length (o.flatMap encU)) (fun _ _ _ v20 _ => n - (intOf v20).toNat)
  case atStart =>
    refine ⟨0, 0, v0, [], Nat.zero_le _, rfl, Nat.zero_le _, rfl, ⟨okV0, rfl⟩, ?_, HP1.out, by simp, World.ownsRow_nil _ _ _ _⟩
    simp
  case round =>
    obtain ⟨i, p, s, o, hi, rfl, hp, hol, hok, hrd, hm, hsz, hown⟩ := hrel
    have HM := Lib.hid hm
    have HW := Lib.hid hown
    have HRD := Lib.hid (And.intro hrd (And.intro hol hok))
    have HZ := Lib.hid hsz
    have HTB := Lib.hid (HTT.out _ (hm.since HB1.out.1 (Nat.le_refl _)))
    have hst : VaAt wr w2.heap.size s := hm.at_ (by simp)
    clear hm hown hrd hol hok hsz
    by_cases hlt : i < n
    · obtain ⟨N, V, L, T⟩ := s
      have c0 := hst.c0
      have c1 := hst.c1
      have c2 := hst.c2
      have c3 := hst.c3
      simp only [] at c0 c1 c2 c3
      have i0 : (0 : Int) ≤ (i : Int) := by omega
      have i1 : (i : Int) < (n : Int) := by omega
      clear hst
      go_wp2_with fail
      refine (HGT.out _ _ p (N, V, L, T) HM.out.rd hp HRD.out.2.2.1 (by have h := HRD.out.2.2.2; simp only [] at h ⊢; omega) HTB.out).mono ?_
      rintro e w3 ⟨rfl, hread⟩
      have hm3 := HM.out.got hread
      have hown3 : w3.ownsRow (w2.heap.size + 1) 35 1 _ o.length (o.flatMap encU) := own_but HW.out (by have := HB1.out.2; have := HZ12.out; omega) hread.size hread.old
      have hz3 : w2.heap.size + 1 ≤ w3.heap.size := Nat.le_trans HZ.out hread.size
      have hqle := gotV_le (S := S) HRD.out.2.2.1 (by rw [HSL.out]; exact hp)
      rw [HSL.out] at hqle
      have hni : n - i = (n - (i + 1)) + 1 := by omega
      have hstep := readV_step S p (n - (i + 1)) (N, V, L, T)
      rw [← hni] at hstep
      cases hg : getV (S.drop p) (N, V, L, T) with
      | none =>
        have hG : gotV S p (N, V, L, T) = ((N, V, L, T), false, p) := by unfold gotV; rw [hg]
        rw [hG]
        have hRn : R = none := by
          rw [HR.out, HRD.out.1, hstep, hg]; rfl
        have HBF := Lib.hid (hm3.since HB1.out.1 (Nat.le_refl _))
        clear hstep hg hG hqle hm3 hown3 hread c0 c1 c2 c3
        go_wp2_with fail
        go_ret2
        refine ⟨.slice none 0 0, ?_, ?_, ?_⟩
        · rw [hRn]; rfl
        · rw [hRn]; exact World.ownsRow_nil _ _ _ _
        · exact HBF.out.alloc HBF.out.size _
      | some x =>
        obtain ⟨t, k⟩ := x
        have hG : gotV S p (N, V, L, T) = (aftV (N, V, L, T) t, true, p + k) := by unfold gotV; rw [hg]
        rw [hG] at hqle hm3 ⊢
        rw [hg] at hstep
        simp only [] at hstep
        have hput := put_get _ _ _ _ HRD.out.2.2.1 hg
        have hok2 := okV_aft HRD.out.2.2.1 hput.1
        have hT := aftV_V (N, V, L, T) t
        have hN2 := aftV_N (N, V, L, T) t
        generalize aftV (N, V, L, T) t = s' at *
        obtain ⟨x, y, z, u⟩ := s'
        obtain rfl : y = t := hT
        obtain ⟨q, hq⟩ : ∃ q, p + k = q := ⟨_, rfl⟩
        simp only [hq] at hqle hm3 hstep
        have HM3 := Lib.hid hm3
        have HO3 := Lib.hid hown3
        have HS := Lib.hid (And.intro hstep (And.intro hok2 hN2))
        have HQ := Lib.hid hqle
        have hz1 := HB1.out.2
        have hbig : Hid (RM w1 (w3.alloc (.cells #[.int .i64 (x : Int), .int .u64 (y : Int), .int .i64 (z : Int), .int .i64 (u : Int)] 106 (0, 0))) w.heap.size B q [(w2.heap.size, VaObj (N, V, L, T))]) := Lib.hid (hm3.below ((Below.refl _ _).alloc (Nat.le_refl _) _))
        have HO4 : Hid ((w3.alloc (.cells #[.int .i64 (x : Int), .int .u64 (y : Int), .int .i64 (z : Int), .int .i64 (u : Int)] 106 (0, 0))).ownsRow (w2.heap.size + 1) 35 1 _ o.length (o.flatMap encU)) := Lib.hid (hown3.alloc _)
        have hst : VaAt (w3.alloc (.cells #[.int .i64 (x : Int), .int .u64 (y : Int), .int .i64 (z : Int), .int .i64 (u : Int)] 106 (0, 0))) w2.heap.size (N, V, L, T) := hbig.out.at_ (by simp)
        have HZ3 := Lib.hid hz3
        have HOL := Lib.hid HRD.out.2.1
        clear hstep hok2 hput hg hG hqle hm3 hown3 hread c0 c1 c2 c3 HM HW hN2
        go_wp2_with (first
          | (refine wpList_store_row rfl 106 _ _ rfl w2.heap.size #[.int .i64 (x : Int), .int .u64 (y : Int), .int .i64 (z : Int), .int .i64 (u : Int)] rfl rfl 106 _ hst info_va rfl (by simp [Value.oneCell']) ?_
             have HM5 := Lib.hid (hbig.out.setOne #[.int .i64 (x : Int), .int .u64 (y : Int), .int .i64 (z : Int), .int .i64 (u : Int)])
             have hown5 := own_but (w' := (w3.alloc (.cells #[.int .i64 (x : Int), .int .u64 (y : Int), .int .i64 (z : Int), .int .i64 (u : Int)] 106 (0, 0))).setRow w2.heap.size #[.int .i64 (x : Int), .int .u64 (y : Int), .int .i64 (z : Int), .int .i64 (u : Int)]) HO4.out (Nat.lt_succ_self _) (by simp) (fun j _ hj => setRow_other _ _ _ _ hj)
             have hz5 : w2.heap.size + 1 ≤ ((w3.alloc (.cells #[.int .i64 (x : Int), .int .u64 (y : Int), .int .i64 (z : Int), .int .i64 (u : Int)] 106 (0, 0))).setRow w2.heap.size #[.int .i64 (x : Int), .int .u64 (y : Int), .int .i64 (z : Int), .int .i64 (u : Int)]).heap.size := by simp; have := HZ3.out; omega
             clear hst HO4 hbig
             generalize (w3.alloc (.cells #[.int .i64 (x : Int), .int .u64 (y : Int), .int .i64 (z : Int), .int .i64 (u : Int)] 106 (0, 0))).setRow w2.heap.size #[.int .i64 (x : Int), .int .u64 (y : Int), .int .i64 (z : Int), .int .i64 (u : Int)] = w5 at HM5 hown5 hz5 ⊢
             have d1 : w5.cell? ⟨w2.heap.size, 1, none⟩ = some (.int .u64 (y : Int)) := VaAt.c1 (s := (x, y, z, u)) (HM5.out.at_ (by simp [VaObj])))
          | (at_builtin; go_must (refine wpList_append_one rfl _ _ 53 rfl (w2.heap.size + 1) 35 (.int .u64 0) 1 8 Tryd.underlying53 elemU64 rfl (by decide) w5 hown5 rfl _ rfl rfl (one1 rfl) (by have := HOL.out; omega) (by have := HOL.out; omega) hz5 ?_); intro v' w' hown' hb' hz'; clear hown5))
        refine ⟨⟨i + 1, q, (x, y, z, u), o ++ [y], by omega, by go_num, HQ.out, by rw [List.length_append, HOL.out]; rfl, ⟨HS.out.2.1, by have h := HS.out.2.2; have h2 := HRD.out.2.2.2; simp only [] at h h2 ⊢; omega⟩, ?_, ?_, by omega, ?_⟩, by simp [intOf]; omega⟩
        · rw [HRD.out.1, HS.out.1, Option.map_map]
          congr 1
          funext x
          simp
        · exact HM5.out.belowB hb' (by have := HB1.out.2; have := HZ12.out; omega) (fun x hx => by rw [List.mem_singleton.1 hx]; simp) (by have := HZ12.out; omega)
        · rw [List.length_append, List.flatMap_append]
          exact hown'
    · obtain rfl : i = n := by omega
      have hRn : R = if cleanB (S.drop p) = true then some o else none := by
        rw [HR.out, HRD.out.1, Nat.sub_self]
        show (((some ([], S.drop p)).map fun x : List Nat × List Bool => (o ++ x.1, x.2)).bind _) = _
        simp
      have HRN := Lib.hid hRn
      clear hRn hst
      go_wp2_with fail
      refine (HCL.out _ _ p HM.out.rd hp).mono ?_
      rintro e w3 ⟨rfl, hb3⟩
      have HBF := Lib.hid (later (HM.out.since HB1.out.1 (Nat.le_refl _)) hb3)
      have HO3 := Lib.hid (own_base (own_later HW.out hb3) (b2 := w.heap.size) (by have := HB1.out.2; have := HZ12.out; omega))
      obtain ⟨C, hC⟩ : ∃ C, cleanB (S.drop p) = C := ⟨_, rfl⟩
      rw [hC] at HRN ⊢
      clear hb3 hC
      cases C with
      | true =>
        have hRt : R = some o := by rw [HRN.out, if_pos rfl]
        go_wp2
        go_ret2
        subst hRt
        exact ⟨_, rfl, HO3.out, HBF.out⟩
      | false =>
        have hRt : R = none := by rw [HRN.out]; rfl
        go_wp2
        go_ret2
        subst hRt
        exact ⟨_, rfl, World.ownsRow_nil _ _ _ _, HBF.out⟩
theorem read_any (B : ByteArray) (n : Int) (w : World) (hs : B.size ≤ 68719476736) (hT : Tab w) :
    Calls Tryd.prog 65 #[.string B, .int .i64 n] w fun e w' => ∃ A k c, e = .returned (.tuple #[.slice A k c, .bool (readB (unpack B.data.toList) n).isSome]) ∧ Comes w' 1 encU okU A k c ((readB (unpack B.data.toList) n).getD []) ∧ Below w.heap.size w w' := by
  have hok : ∀ x ∈ (readB (unpack B.data.toList) n).getD [], okU x := by
    intro x hx
    cases h : readB (unpack B.data.toList) n with
    | none => rw [h] at hx; simp at hx
    | some l =>
      rw [h] at hx
      exact (read_only B n l h).2.2.1 x hx
  by_cases h : n < 0 ∨ 10000 < n
  · refine (read_far B n w h).mono ?_
    rintro e w' ⟨rfl, hb⟩
    have e1 : readB (unpack B.data.toList) n = none := by unfold readB; rw [if_pos h]
    rw [e1]
    exact ⟨_, _, _, rfl, Comes.nil _ _ _ _, hb⟩
  · obtain ⟨m, rfl⟩ : ∃ m : Nat, n = m := ⟨n.toNat, by omega⟩
    refine (read_near B m w hs (by omega) hT).mono ?_
    rintro e w' ⟨v, rfl, hown, hb⟩
    obtain ⟨A, c, rfl, -, hc⟩ := Comes.of_own hown (fun _ => rfl) (by decide) hok
    exact ⟨_, _, _, rfl, hc, hb⟩
end Go.Proofs.YtdidengokijcjaaDoor.VaW
/-
  label.Key: THE WALK.
-/
namespace Go.Proofs.YtdidengokijcjaaDoor.FrW
set_option linter.unusedVariables false
open Go.RowKit FrM LabM LbM LabW
def shortL (l : List Lab) : Prop := ∀ x ∈ l, x.1.size ≤ 300 ∧ x.2.size ≤ 300
theorem keyL_at (l : List Lab) (k : Nat) (h : k < l.length) : keyL (l.drop k) = text l[k].1.data.toList ++ (text l[k].2.data.toList ++ keyL (l.drop (k + 1))) := by
  rw [List.drop_eq_getElem_cons h, keyL]
end Go.Proofs.YtdidengokijcjaaDoor.FrW
/-
  alluviumref03.Small, Text; alluviumref06.Key: THE WALKS.
-/
namespace Go.Proofs.YtdidengokijcjaaDoor.FrW
set_option linter.unusedVariables false
open Go.RowKit FrM LabM LbM LabW
set_option maxRecDepth 20000 in
set_option maxHeartbeats 2000000 in
theorem rsmall_any (n : Nat) (w : World) (hn : n < 18446744073709551616) :
    Calls Tryd.prog 20 #[.int .u64 (n : Int)] w fun e w' => e = .returned (.string (bs (small n))) ∧ Below w.heap.size w w' := by
  have HN := Lib.hid hn
  obtain ⟨S, hS⟩ : ∃ S, small n = S := ⟨_, rfl⟩
  rw [hS]
  have HS := Lib.hid hS
  clear hS
  go_enter Tryd.func20, Tryd.ntmps20
  go_wp2_with fail
  go_loopw [0, 3] (fun v0 v3 wr => ∃ (i m : Nat) (pre : List UInt8), i ≤ 9 ∧ v0 = .int .u64 m ∧ m < 2 * 128 ^ (9 - i) ∧ m < 18446744073709551616 ∧ pre.length = i ∧ S = pre ++ sm (9 - i) m ∧ wr.ownsRow w.heap.size 5 1 v3 i (byteCells pre) ∧ Below w.heap.size w wr) (fun v0 _ _ => (intOf v0).toNat)
  case atStart => exact ⟨0, n, [], by omega, rfl, by rw [show 9 - 0 = 9 from rfl, num_two]; exact HN.out, HN.out, rfl, HS.out.symm, World.ownsRow_nil _ _ _ _, Below.refl _ _⟩
  case round =>
    obtain ⟨i, m, pre, hi, rfl, hm, hm64, hpl, hpre, hown, hb⟩ := hrel
    have HB := Lib.hid (And.intro hb (And.intro hpl hpre))
    have hbz := hb.size
    have HM := Lib.hid hm
    clear hb hpl hpre hm
    by_cases hlt : m < 128
    · have hS2 : S = pre ++ [UInt8.ofNat m] := by rw [HB.out.2.2, sm_last hlt]
      have h256 : ((m : Int)) % 256 = m := by omega
      have HCV := Lib.hid (fun (v' : Value) (w' : World) (hown' : w'.ownsRow w.heap.size 5 1 v' (i + 1) (byteCells pre ++ [.int .u8 (m : Int)])) => (show (convert 46 9 v').run Tryd.prog w' = .ok (.string ⟨S.toArray⟩) w' from by
        refine conv_owned (P := Tryd.prog) (src := 46) (dst := 9) Tryd.underlying46 Tryd.underlying5 Tryd.underlying9 (base := w.heap.size) (n := i + 1) ?_
        rw [hS2, byteCells_append]
        have e2 : byteCells [UInt8.ofNat m] = [Value.int .u8 (m : Int)] := by simp only [byteCells, List.map_cons, List.map_nil]; rw [byte_nat _ (by omega)]
        rw [e2]; exact hown'))
      clear hS2
      go_wp2_with (at_builtin; go_must (refine wpList_append_one rfl _ _ 46 rfl w.heap.size 5 (.int .u8 0) 1 1 Tryd.underlying46 elemU8 rfl (by decide) wr hown rfl _ rfl rfl (one1 rfl) (by omega) (by omega) hbz ?_); intro v' w' hown' hb' hz'; have hconv := HCV.out v' w' hown'; clear hown hown')
      go_ret
      exact ⟨rfl, HB.out.1.trans hb'⟩
    · have hi8 : i < 9 := by
        have h := HM.out
        by_cases h9 : i = 9
        · subst h9; have : m < 2 := by simpa using h
          omega
        · omega
      have hdiv : (m : Int) / 128 = ((m / 128 : Nat) : Int) := by omega
      obtain ⟨y, hy⟩ : ∃ y, UInt8.ofNat (m % 128 + 128) = y := ⟨_, rfl⟩
      have hsm : sm (9 - i) m = y :: sm (9 - (i + 1)) (m / 128) := by
        rw [show 9 - i = (9 - (i + 1)) + 1 by omega, sm_more hlt, hy]
      have hm2 : m / 128 < 2 * 128 ^ (9 - (i + 1)) := by
        have h := HM.out
        rw [show 9 - i = (9 - (i + 1)) + 1 by omega, Nat.pow_succ] at h
        rw [Nat.div_lt_iff_lt_mul (by omega)]; omega
      have hyn : ((y.toNat : Nat) : Int) = (m : Int) % 128 + 128 := by rw [← hy, byte_nat _ (by omega)]; omega
      obtain ⟨m2, hmm⟩ : ∃ m2, m / 128 = m2 := ⟨_, rfl⟩
      have hlt2 : m2 < m := by omega
      rw [hmm] at hdiv hsm hm2
      have HR := Lib.hid (And.intro hsm (And.intro hm2 (And.intro hlt2 hyn)))
      clear hy hsm hm2 hmm hlt2 hyn
      go_wp2_with (at_builtin; go_must (refine wpList_append_one rfl _ _ 46 rfl w.heap.size 5 (.int .u8 0) 1 1 Tryd.underlying46 elemU8 rfl (by decide) wr hown rfl _ rfl rfl (one1 rfl) (by omega) (by omega) hbz ?_); intro v' w' hown' hb' hz'; clear hown)
      go_roundw
      case rel =>
        refine ⟨i + 1, m2, pre ++ [y], by omega, by first | rfl | (rw [hdiv]), HR.out.2.1, by have := HR.out.2.2.1; omega, by rw [List.length_append, HB.out.2.1]; rfl, by rw [HB.out.2.2, HR.out.1]; simp, ?_, HB.out.1.trans hb'⟩
        rw [byteCells_append]
        have e2 : byteCells [y] = [Value.int .u8 ((m : Int) % 128 + 128)] := by simp only [byteCells, List.map_cons, List.map_nil]; rw [HR.out.2.2.2]
        rw [e2]; exact hown'
      case measure => have := HR.out.2.2.1; simp [intOf]; omega
set_option maxHeartbeats 400000 in
theorem rtext_any (l : List UInt8) (w : World) (hl : l.length ≤ 1099511627776) :
    Calls Tryd.prog 23 #[.string (bs l)] w fun e w' => e = .returned (.string (bs (text l))) ∧ Below w.heap.size w w' := by
  have hz := bs_size l
  have hsm := sm_len 9 l.length
  have hz2 : (bs (small l.length)).size ≤ 10 := by rw [bs_size]; exact hsm
  have HT : Hid (bs (small l.length) ++ bs l = bs (text l)) := Lib.hid (bs_append _ _)
  have HS : Hid (∀ W, Calls Tryd.prog 20 #[.int .u64 (l.length : Int)] W fun e w' => e = .returned (.string (bs (small l.length))) ∧ Below W.heap.size W w') := Lib.hid (fun W => rsmall_any l.length W (by omega))
  obtain ⟨S, hS⟩ : ∃ S, bs (small l.length) = S := ⟨_, rfl⟩
  obtain ⟨X, hX⟩ : ∃ X, bs l = X := ⟨_, rfl⟩
  obtain ⟨n, hn⟩ : ∃ n, l.length = n := ⟨_, rfl⟩
  rw [hS, hX] at HT
  rw [hS] at HS hz2
  rw [hn] at HS hz hl
  rw [hX] at hz ⊢
  clear hS hX hsm hn
  go_enter Tryd.func23, Tryd.ntmps23
  go_wp2_with fail
  refine (HS.out _).mono ?_
  rintro e w1 ⟨rfl, hb1⟩
  go_wp2
  go_ret
  exact ⟨by rw [← HT.out]; rfl, hb1⟩
end Go.Proofs.YtdidengokijcjaaDoor.FrW
