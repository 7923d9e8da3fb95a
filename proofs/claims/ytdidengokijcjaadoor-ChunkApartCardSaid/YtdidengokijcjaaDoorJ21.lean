/-
  alluviumref05.Valid, Put: THE WALKS.
  alluviumref05.Put, Begin, take: THE WALKS.
  alluviumref05.Get: THE WALK. (Printed by wip/gen/varefh.py.)
-/
import Derived.Test.YtdidengokijcjaaDoorJ20
import Derived.StillTailTactics
import Derived.Deep.RegionHeld3
import Derived.RegionTactic
import Derived.ChangeAlike
import Derived.BigRegion
import Derived.Deep.Cut
import Derived.Deep.DeepCutAuto
/-
  alluviumref05.Valid, Put: THE WALKS.
-/
namespace Go.Proofs.YtdidengokijcjaaDoor.VaW
set_option linter.unusedVariables false
open Go.RowKit Go.Shelf BitsM BitsW VaM
def RvObj (s : Sv) : Obj := .cells #[.int .i64 (s.1 : Int), .int .u64 (s.2.1 : Int), .int .i64 (s.2.2.1 : Int), .int .i64 (s.2.2.2 : Int)] 69 (0, 0)
theorem info_rv : (Tryd.prog.info? 69).map (·.size) = some 4 := by kernel_rfl
def RvAt (W : World) (g : Nat) (s : Sv) : Prop := W.heap[g]? = some (RvObj s)
theorem RvAt.c0 {W : World} {g : Nat} {s : Sv} (h : RvAt W g s) : W.cell? ⟨g, 0, none⟩ = some (.int .i64 (s.1 : Int)) := by rw [cell_of_row W _ _ _ _ _ h]; rfl
theorem RvAt.c1 {W : World} {g : Nat} {s : Sv} (h : RvAt W g s) : W.cell? ⟨g, 1, none⟩ = some (.int .u64 (s.2.1 : Int)) := by rw [cell_of_row W _ _ _ _ _ h]; rfl
theorem RvAt.c2 {W : World} {g : Nat} {s : Sv} (h : RvAt W g s) : W.cell? ⟨g, 2, none⟩ = some (.int .i64 (s.2.2.1 : Int)) := by rw [cell_of_row W _ _ _ _ _ h]; rfl
theorem RvAt.c3 {W : World} {g : Nat} {s : Sv} (h : RvAt W g s) : W.cell? ⟨g, 3, none⟩ = some (.int .i64 (s.2.2.2 : Int)) := by rw [cell_of_row W _ _ _ _ _ h]; rfl
theorem RvAt.later {W W' : World} {g : Nat} {s : Sv} (h : RvAt W g s) (hb : Below W.heap.size W W') : RvAt W' g s := (hb.block _ (Array.getElem?_eq_some_iff.1 h).1).trans h
theorem box_rv (w : World) (s : Sv) : (w.alloc (RvObj s)).heap.size = w.heap.size + 1 := by simp
set_option maxHeartbeats 1000000 in
theorem rvalid_ok (s : Sv) (w : World) (h : okV s) :
    Calls Tryd.prog 45 #[.agg #[.int .i64 ((s).1 : Int), .int .u64 ((s).2.1 : Int), .int .i64 ((s).2.2.1 : Int), .int .i64 ((s).2.2.2 : Int)]] w fun e w' => e = .returned (.bool true) ∧ Below w.heap.size w w' := by
  have HB := Lib.hid ((Below.refl w.heap.size w).alloc (Nat.le_refl _) (RvObj s))
  obtain ⟨N, V, L, T⟩ := s
  rcases h.2 with ⟨h1, h2⟩ | ⟨h1, h2⟩
  · have h1 : L = 64 := h1
    have h2 : T = 0 := h2
    subst h1 h2
    clear h
    go_enter Tryd.func45, Tryd.ntmps45
    go_wp2
    go_ret
    exact ⟨rfl, HB.out⟩
  · have h1 : L < 64 := h1
    have h2 : T < 64 - L := h2
    have h3 : (L : Int) + (T : Int) < 64 := by omega
    have h4 : T < 64 := by omega
    have g1 : decide ((L : Int) < 64) = true := decide_eq_true (by omega)
    have g2 : decide ((T : Int) < 64) = true := decide_eq_true (by omega)
    have g3 : decide ((L : Int) + (T : Int) < 64) = true := decide_eq_true (by omega)
    clear h1 h2
    clear h
    go_enter Tryd.func45, Tryd.ntmps45
    go_wp2
    go_ret
    exact ⟨rfl, HB.out⟩
theorem msb_mid (x L T : Nat) (h : L + T ≤ 64) : ((msb x 64).drop L).take (64 - T - L) = msb (x / 2 ^ T) (64 - L - T) := by
  have e1 : msb x 64 = msb (x / 2 ^ (64 - L)) L ++ msb x (64 - L) := by
    have := msb_append x (64 - L) L
    rw [show L + (64 - L) = 64 by omega] at this; exact this
  have e2 : msb x (64 - L) = msb (x / 2 ^ T) (64 - L - T) ++ msb x T := by
    have := msb_append x T (64 - L - T)
    rw [show 64 - L - T + T = 64 - L by omega] at this; exact this
  rw [e1, drop_msb, e2]
  have := List.take_left (l₁ := msb (x / 2 ^ T) (64 - L - T)) (l₂ := msb x T)
  rw [msb_length] at this
  rw [show 64 - T - L = 64 - L - T by omega, this]
theorem bstr_z : (⟨#[48]⟩ : ByteArray) = bstr [false] := rfl
theorem bstr_oz : (⟨#[49, 48]⟩ : ByteArray) = bstr [true, false] := rfl
theorem bstr_oo : (⟨#[49, 49]⟩ : ByteArray) = bstr [true, true] := rfl
theorem rset4_row {W : World} {z : Nat} {s : Sv} (h : RvAt W z (0, 0, 0, 0)) : RvAt ((((W.setCell ⟨z, 0, none⟩ (.int .i64 (s.1 : Int))).setCell ⟨z, 1, none⟩ (.int .u64 (s.2.1 : Int))).setCell ⟨z, 2, none⟩ (.int .i64 (s.2.2.1 : Int))).setCell ⟨z, 3, none⟩ (.int .i64 (s.2.2.2 : Int))) z s :=
  heap_setCell_same _ _ 3 _ _ _ (heap_setCell_same _ _ 2 _ _ _ (heap_setCell_same _ _ 1 _ _ _ (heap_setCell_same _ _ 0 _ _ _ h)))
theorem rset4_other (W : World) (z : Nat) (a b c d : Value) (k : Nat) (h : k ≠ z) : ((((W.setCell ⟨z, 0, none⟩ a).setCell ⟨z, 1, none⟩ b).setCell ⟨z, 2, none⟩ c).setCell ⟨z, 3, none⟩ d).heap[k]? = W.heap[k]? :=
  (heap_setCell_other _ _ _ _ h).trans ((heap_setCell_other _ _ _ _ h).trans ((heap_setCell_other _ _ _ _ h).trans (heap_setCell_other _ _ _ _ h)))
theorem rset4_below {w W : World} {B g : Nat} (a b c d : Value) (h : Below B w W) (hg : B ≤ g) : Below B w ((((W.setCell ⟨g, 0, none⟩ a).setCell ⟨g, 1, none⟩ b).setCell ⟨g, 2, none⟩ c).setCell ⟨g, 3, none⟩ d) :=
  (((h.setCell hg _).setCell hg _).setCell hg _).setCell hg _
set_option maxRecDepth 20000 in
set_option maxHeartbeats 2000000 in
theorem rput_0 (s : Sv) (v : Nat) (w : World) (hs : okV s) (hv : v < 18446744073709551616) (hN : s.1 ≤ 4398046511104) (h0 : s.1 = 0) :
    Calls Tryd.prog 34 #[.agg #[.int .i64 ((s).1 : Int), .int .u64 ((s).2.1 : Int), .int .i64 ((s).2.2.1 : Int), .int .i64 ((s).2.2.2 : Int)], .int .u64 (v : Int)] w fun e w' => e = .returned (.tuple #[.string (bstr (putV s v)), .agg #[.int .i64 ((aftV s v).1 : Int), .int .u64 ((aftV s v).2.1 : Int), .int .i64 ((aftV s v).2.2.1 : Int), .int .i64 ((aftV s v).2.2.2 : Int)]]) ∧ Below w.heap.size w w' := by
  have HV := Lib.hid (fun W => rvalid_ok s W hs)
  obtain ⟨ea, hLT, hway⟩ := put_way s v hs hv
  have hx := xor_lt hv hs.1
  have hw := okW_size hs.2
  have hxr := bits_xor_u64_nat v s.2.1 hv hs.1
  have HM := Lib.hid (rbits_any v 64)
  rw [show within 64 = 64 from rfl] at HM
  have e1 : putV s v = msb v 64 := by unfold putV; rw [if_pos h0]
  have e2 : aftV s v = (s.1 + 1, v, s.2.2.1, s.2.2.2) := by unfold aftV; rw [if_pos (.inl h0)]
  rw [e1, e2]
  have hb0 : ((s.1 : Int) == 0) = true := by simp [h0]
  clear ea hLT hway e1 e2 h0 hxr
  obtain ⟨S, hS⟩ : ∃ S, bstr (msb v 64) = S := ⟨_, rfl⟩
  rw [hS] at HM ⊢
  clear hS
  obtain ⟨N, V, L, T⟩ := s
  simp only [] at hN hw hb0 HV ⊢
  go_enter Tryd.func34, Tryd.ntmps34
  go_wp2_with fail
  refine (HV.out _).mono ?_
  rintro e w1 ⟨rfl, hb1⟩
  have HB1 := Lib.hid (show Below w.heap.size w w1 from (((Below.refl _ _).alloc (Nat.le_refl _) _).alloc (by simp) _).trans (hb1.mono (by simp; omega)))
  have hst1 : RvAt w1 w.heap.size (N, V, L, T) := RvAt.later (W := (w.alloc (RvObj (N, V, L, T))).alloc (RvObj (0, 0, 0, 0))) ((heap_past _ _ (by simp)).trans (heap_alloc_new w _)) hb1
  have hres1 : RvAt w1 (w.heap.size + 1) (0, 0, 0, 0) := RvAt.later (W := (w.alloc (RvObj (N, V, L, T))).alloc (RvObj (0, 0, 0, 0))) (heap_at _ _ (by simp)) hb1
  have HZ := Lib.hid (show w.heap.size + 1 < w1.heap.size by have := hb1.size; simp at this; omega)
  have k0 := hst1.c0
  have k1 := hst1.c1
  have k2 := hst1.c2
  have k3 := hst1.c3
  simp only [] at k0 k1 k2 k3
  have hbA : Below w1.heap.size w1 (w1.alloc (.cells #[.int .i64 (((N : Int) + 1) : Int), .int .u64 (v : Int), .int .i64 (L : Int), .int .i64 (T : Int)] 69 (0, 0))) := (Below.refl _ _).alloc (Nat.le_refl _) _
  have hstA := hst1.later hbA
  have hresA := hres1.later hbA
  have hyA : RvAt (w1.alloc (.cells #[.int .i64 (((N : Int) + 1) : Int), .int .u64 (v : Int), .int .i64 (L : Int), .int .i64 (T : Int)] 69 (0, 0))) w1.heap.size (N + 1, v, L, T) := heap_alloc_new _ _
  have a0 := hstA.c0
  have a1 := hstA.c1
  have a2 := hstA.c2
  have a3 := hstA.c3
  have y0 : (w1.alloc (.cells #[.int .i64 (((N : Int) + 1) : Int), .int .u64 (v : Int), .int .i64 (L : Int), .int .i64 (T : Int)] 69 (0, 0))).cell? ⟨w1.heap.size, 0, none⟩ = some (.int .i64 ((N : Int) + 1)) := hyA.c0
  have y1 := hyA.c1
  have y2 := hyA.c2
  have y3 := hyA.c3
  simp only [] at a0 a1 a2 a3 y1 y2 y3
  have HA := Lib.hid (And.intro (later HB1.out hbA) hresA)
  have HYA := Lib.hid hyA
  have HR1 := Lib.hid hres1
  clear hb1 hst1 hres1 hbA hstA hresA hyA HV
  go_wp2_with fail
  refine (HM.out _ hv (by omega)).mono ?_
  rintro e w' ⟨rfl, rfl⟩
  go_wp2_with fail
  obtain ⟨wA, hwA⟩ : ∃ wA, (w1.alloc (.cells #[.int .i64 (((N : Int) + 1) : Int), .int .u64 (v : Int), .int .i64 (L : Int), .int .i64 (T : Int)] 69 (0, 0))) = wA := ⟨_, rfl⟩
  rw [hwA] at HA HYA a0 a1 a2 a3 y0 y1 y2 y3 ⊢
  clear hwA
  have hresd : RvAt wA.drew (w.heap.size + 1) (0, 0, 0, 0) := HA.out.2
  have hbdr : Below w.heap.size w wA.drew := HA.out.1.trans ⟨rfl, rfl, rfl, Nat.le_refl _, fun _ _ => rfl⟩
  have HBD := Lib.hid (show Below w.heap.size w (wA.drew.setRow (w.heap.size + 1) #[.int .i64 (((N : Int) + 1) : Int), .int .u64 (v : Int), .int .i64 (L : Int), .int .i64 (T : Int)]) from below_setRow hbdr (Nat.le_succ _) _)
  clear hbdr
  go_still_tail 3, (by kernel_rfl)
  go_wp2_with (refine wpList_store_row rfl 69 _ _ rfl (w.heap.size + 1) #[.int .i64 (((N : Int) + 1) : Int), .int .u64 (v : Int), .int .i64 (L : Int), .int .i64 (T : Int)] rfl rfl 69 _ hresd info_rv rfl (by simp [Value.oneCell']) ?_)
  have hr2 : RvAt (wA.drew.setRow (w.heap.size + 1) #[.int .i64 (((N : Int) + 1) : Int), .int .u64 (v : Int), .int .i64 (L : Int), .int .i64 (T : Int)]) (w.heap.size + 1) (N + 1, v, L, T) := setRow_heap _ _ _ _ _ _ hresd
  have r0 : (wA.drew.setRow (w.heap.size + 1) #[.int .i64 (((N : Int) + 1) : Int), .int .u64 (v : Int), .int .i64 (L : Int), .int .i64 (T : Int)]).cell? ⟨w.heap.size + 1, 0, none⟩ = some (.int .i64 ((N : Int) + 1)) := hr2.c0
  have r1 := hr2.c1
  have r2 := hr2.c2
  have r3 := hr2.c3
  simp only [] at r1 r2 r3
  refine bodyPost_ret (v := .tuple #[.string S, .agg #[.int .i64 (((N : Int) + 1) : Int), .int .u64 (v : Int), .int .i64 (L : Int), .int .i64 (T : Int)]]) ?_ rfl ⟨rfl, HBD.out⟩
  simp [results, Tryd.results34, go_sem, r0, r1, r2, r3]
set_option maxRecDepth 20000 in
set_option maxHeartbeats 2000000 in
theorem rput_1 (s : Sv) (v : Nat) (w : World) (hs : okV s) (hv : v < 18446744073709551616) (hN : s.1 ≤ 4398046511104) (h0 : ¬ s.1 = 0) (hx0 : v ^^^ s.2.1 = 0) :
    Calls Tryd.prog 34 #[.agg #[.int .i64 ((s).1 : Int), .int .u64 ((s).2.1 : Int), .int .i64 ((s).2.2.1 : Int), .int .i64 ((s).2.2.2 : Int)], .int .u64 (v : Int)] w fun e w' => e = .returned (.tuple #[.string (bstr (putV s v)), .agg #[.int .i64 ((aftV s v).1 : Int), .int .u64 ((aftV s v).2.1 : Int), .int .i64 ((aftV s v).2.2.1 : Int), .int .i64 ((aftV s v).2.2.2 : Int)]]) ∧ Below w.heap.size w w' := by
  have HV := Lib.hid (fun W => rvalid_ok s W hs)
  obtain ⟨ea, hLT, hway⟩ := put_way s v hs hv
  have hx := xor_lt hv hs.1
  have hw := okW_size hs.2
  have hxr := bits_xor_u64_nat v s.2.1 hv hs.1
  have HM := Lib.hid (rbits_any v 64)
  rw [show within 64 = 64 from rfl] at HM
  have e1 : putV s v = [false] := by unfold putV; rw [if_neg h0, if_pos hx0]
  have e2 : aftV s v = (s.1 + 1, v, s.2.2.1, s.2.2.2) := by unfold aftV; rw [if_pos (.inr (.inl hx0))]
  rw [e1, e2, ← bstr_z]
  rw [hx0] at hxr
  have hb0 : ((s.1 : Int) == 0) = false := by simp; omega
  clear ea hLT hway e1 e2 h0 hx0 hx
  obtain ⟨S, hS⟩ : ∃ S, bstr (msb v 64) = S := ⟨_, rfl⟩
  rw [hS] at HM
  clear hS
  obtain ⟨N, V, L, T⟩ := s
  simp only [] at hN hw hb0 HV hxr ⊢
  go_enter Tryd.func34, Tryd.ntmps34
  go_wp2_with fail
  refine (HV.out _).mono ?_
  rintro e w1 ⟨rfl, hb1⟩
  have HB1 := Lib.hid (show Below w.heap.size w w1 from (((Below.refl _ _).alloc (Nat.le_refl _) _).alloc (by simp) _).trans (hb1.mono (by simp; omega)))
  have hst1 : RvAt w1 w.heap.size (N, V, L, T) := RvAt.later (W := (w.alloc (RvObj (N, V, L, T))).alloc (RvObj (0, 0, 0, 0))) ((heap_past _ _ (by simp)).trans (heap_alloc_new w _)) hb1
  have hres1 : RvAt w1 (w.heap.size + 1) (0, 0, 0, 0) := RvAt.later (W := (w.alloc (RvObj (N, V, L, T))).alloc (RvObj (0, 0, 0, 0))) (heap_at _ _ (by simp)) hb1
  have HZ := Lib.hid (show w.heap.size + 1 < w1.heap.size by have := hb1.size; simp at this; omega)
  have k0 := hst1.c0
  have k1 := hst1.c1
  have k2 := hst1.c2
  have k3 := hst1.c3
  simp only [] at k0 k1 k2 k3
  have hbA : Below w1.heap.size w1 (w1.alloc (.cells #[.int .i64 (((N : Int) + 1) : Int), .int .u64 (v : Int), .int .i64 (L : Int), .int .i64 (T : Int)] 69 (0, 0))) := (Below.refl _ _).alloc (Nat.le_refl _) _
  have hstA := hst1.later hbA
  have hresA := hres1.later hbA
  have hyA : RvAt (w1.alloc (.cells #[.int .i64 (((N : Int) + 1) : Int), .int .u64 (v : Int), .int .i64 (L : Int), .int .i64 (T : Int)] 69 (0, 0))) w1.heap.size (N + 1, v, L, T) := heap_alloc_new _ _
  have a0 := hstA.c0
  have a1 := hstA.c1
  have a2 := hstA.c2
  have a3 := hstA.c3
  have y0 : (w1.alloc (.cells #[.int .i64 (((N : Int) + 1) : Int), .int .u64 (v : Int), .int .i64 (L : Int), .int .i64 (T : Int)] 69 (0, 0))).cell? ⟨w1.heap.size, 0, none⟩ = some (.int .i64 ((N : Int) + 1)) := hyA.c0
  have y1 := hyA.c1
  have y2 := hyA.c2
  have y3 := hyA.c3
  simp only [] at a0 a1 a2 a3 y1 y2 y3
  have HA := Lib.hid (And.intro (later HB1.out hbA) hresA)
  have HYA := Lib.hid hyA
  have HR1 := Lib.hid hres1
  clear hb1 hst1 hres1 hbA hstA hresA hyA HV
  go_wp2_with fail
  refine (HM.out _ hv (by omega)).mono ?_
  rintro e w' ⟨rfl, rfl⟩
  go_wp2_with fail
  obtain ⟨wA, hwA⟩ : ∃ wA, (w1.alloc (.cells #[.int .i64 (((N : Int) + 1) : Int), .int .u64 (v : Int), .int .i64 (L : Int), .int .i64 (T : Int)] 69 (0, 0))) = wA := ⟨_, rfl⟩
  rw [hwA] at HA HYA a0 a1 a2 a3 y0 y1 y2 y3 ⊢
  clear hwA
  have hresd : RvAt wA.drew (w.heap.size + 1) (0, 0, 0, 0) := HA.out.2
  have hbdr : Below w.heap.size w wA.drew := HA.out.1.trans ⟨rfl, rfl, rfl, Nat.le_refl _, fun _ _ => rfl⟩
  have HBD := Lib.hid (show Below w.heap.size w (wA.drew.setRow (w.heap.size + 1) #[.int .i64 (((N : Int) + 1) : Int), .int .u64 (v : Int), .int .i64 (L : Int), .int .i64 (T : Int)]) from below_setRow hbdr (Nat.le_succ _) _)
  clear hbdr
  go_still_tail 2, (by kernel_rfl)
  go_wp2_with (refine wpList_store_row rfl 69 _ _ rfl (w.heap.size + 1) #[.int .i64 (((N : Int) + 1) : Int), .int .u64 (v : Int), .int .i64 (L : Int), .int .i64 (T : Int)] rfl rfl 69 _ hresd info_rv rfl (by simp [Value.oneCell']) ?_)
  have hr2 : RvAt (wA.drew.setRow (w.heap.size + 1) #[.int .i64 (((N : Int) + 1) : Int), .int .u64 (v : Int), .int .i64 (L : Int), .int .i64 (T : Int)]) (w.heap.size + 1) (N + 1, v, L, T) := setRow_heap _ _ _ _ _ _ hresd
  have r0 : (wA.drew.setRow (w.heap.size + 1) #[.int .i64 (((N : Int) + 1) : Int), .int .u64 (v : Int), .int .i64 (L : Int), .int .i64 (T : Int)]).cell? ⟨w.heap.size + 1, 0, none⟩ = some (.int .i64 ((N : Int) + 1)) := hr2.c0
  have r1 := hr2.c1
  have r2 := hr2.c2
  have r3 := hr2.c3
  simp only [] at r1 r2 r3
  refine bodyPost_ret (v := .tuple #[.string ⟨#[48]⟩, .agg #[.int .i64 (((N : Int) + 1) : Int), .int .u64 (v : Int), .int .i64 (L : Int), .int .i64 (T : Int)]]) ?_ rfl ⟨rfl, HBD.out⟩
  simp [results, Tryd.results34, go_sem, r0, r1, r2, r3]
set_option maxRecDepth 20000 in
set_option maxHeartbeats 2000000 in
theorem rput_2 (s : Sv) (v : Nat) (w : World) (hs : okV s) (hv : v < 18446744073709551616) (hN : s.1 ≤ 4398046511104) (h0 : ¬ s.1 = 0) (hx0 : ¬ v ^^^ s.2.1 = 0) (hi : inB s (v ^^^ s.2.1) = true) :
    Calls Tryd.prog 34 #[.agg #[.int .i64 ((s).1 : Int), .int .u64 ((s).2.1 : Int), .int .i64 ((s).2.2.1 : Int), .int .i64 ((s).2.2.2 : Int)], .int .u64 (v : Int)] w fun e w' => e = .returned (.tuple #[.string (bstr (putV s v)), .agg #[.int .i64 ((aftV s v).1 : Int), .int .u64 ((aftV s v).2.1 : Int), .int .i64 ((aftV s v).2.2.1 : Int), .int .i64 ((aftV s v).2.2.2 : Int)]]) ∧ Below w.heap.size w w' := by
  have HV := Lib.hid (fun W => rvalid_ok s W hs)
  obtain ⟨ea, hLT, hway⟩ := put_way s v hs hv
  have hx := xor_lt hv hs.1
  have hw := okW_size hs.2
  have hxr := bits_xor_u64_nat v s.2.1 hv hs.1
  have HM := Lib.hid (rbits_any v 64)
  rw [show within 64 = 64 from rfl] at HM
  have HL : Hid (∀ W, Calls Tryd.prog 47 #[.int .u64 ((v ^^^ s.2.1 : Nat) : Int)] W fun e w' => e = .returned (.int .i64 ((ld (v ^^^ s.2.1) : Nat) : Int)) ∧ W = w') := Lib.hid (fun W => rlead_any _ W hx)
  have HTR : Hid (∀ W, Calls Tryd.prog 48 #[.int .u64 ((v ^^^ s.2.1 : Nat) : Int)] W fun e w' => e = .returned (.int .i64 ((tr (v ^^^ s.2.1) : Nat) : Int)) ∧ W = w') := Lib.hid (fun W => rtrail_any _ W hx)
  have HX := Lib.hid (rbits_any (v ^^^ s.2.1) 64)
  rw [show within 64 = 64 from rfl] at HX
  have hinb := inB_iff s (v ^^^ s.2.1)
  have e1 : putV s v = [true, false] ++ msb ((v ^^^ s.2.1) / 2 ^ s.2.2.2) (64 - s.2.2.1 - s.2.2.2) := by unfold putV; rw [if_neg h0, if_neg hx0, if_pos hi]
  have e2 : aftV s v = (s.1 + 1, v, s.2.2.1, s.2.2.2) := by unfold aftV; rw [if_pos (.inr (.inr hi))]
  rw [e1, e2, bstr_append, ← bstr_oz]
  obtain ⟨i1, i2, i3⟩ := hinb.1 hi
  have hb0 : ((s.1 : Int) == 0) = false := by simp; omega
  have hbx : (((v ^^^ s.2.1 : Nat) : Int) == 0) = false := by simp; omega
  have hsz := bstr_size (msb (v ^^^ s.2.1) 64)
  rw [msb_length] at hsz
  have hsl := slice_mid (P := Tryd.prog) Tryd.underlying9 (bstr (msb (v ^^^ s.2.1) 64)) (s.2.2.1 : Int) (64 - (s.2.2.2 : Int)) s.2.2.1 (64 - s.2.2.2) rfl (by omega) (by omega) (by omega)
  rw [bstr_extract, msb_mid _ _ _ hw] at hsl
  clear ea hLT hway e1 e2 h0 hx0 hi hinb
  obtain ⟨S, hS⟩ : ∃ S, bstr (msb v 64) = S := ⟨_, rfl⟩
  rw [hS] at HM
  clear hS
  obtain ⟨N, V, L, T⟩ := s
  simp only [] at hN hw hb0 HV hxr hbx hsl hx HL HTR HX hsz i1 i2 i3 ⊢
  generalize v ^^^ V = x at *
  generalize ld x = lx at *
  generalize tr x = tx at *
  obtain ⟨S2, hS2⟩ : ∃ S2, bstr (msb x 64) = S2 := ⟨_, rfl⟩
  rw [hS2] at HX hsl hsz
  clear hS2
  obtain ⟨S3, hS3⟩ : ∃ S3, bstr (msb (x / 2 ^ T) (64 - L - T)) = S3 := ⟨_, rfl⟩
  rw [hS3] at hsl ⊢
  have HS3 := Lib.hid (show S3.size ≤ 64 by rw [← hS3, bstr_size, msb_length]; omega)
  clear hS3
  go_enter Tryd.func34, Tryd.ntmps34
  go_wp2_with fail
  refine (HV.out _).mono ?_
  rintro e w1 ⟨rfl, hb1⟩
  have HB1 := Lib.hid (show Below w.heap.size w w1 from (((Below.refl _ _).alloc (Nat.le_refl _) _).alloc (by simp) _).trans (hb1.mono (by simp; omega)))
  have hst1 : RvAt w1 w.heap.size (N, V, L, T) := RvAt.later (W := (w.alloc (RvObj (N, V, L, T))).alloc (RvObj (0, 0, 0, 0))) ((heap_past _ _ (by simp)).trans (heap_alloc_new w _)) hb1
  have hres1 : RvAt w1 (w.heap.size + 1) (0, 0, 0, 0) := RvAt.later (W := (w.alloc (RvObj (N, V, L, T))).alloc (RvObj (0, 0, 0, 0))) (heap_at _ _ (by simp)) hb1
  have HZ := Lib.hid (show w.heap.size + 1 < w1.heap.size by have := hb1.size; simp at this; omega)
  have k0 := hst1.c0
  have k1 := hst1.c1
  have k2 := hst1.c2
  have k3 := hst1.c3
  simp only [] at k0 k1 k2 k3
  have hbA : Below w1.heap.size w1 (w1.alloc (.cells #[.int .i64 (((N : Int) + 1) : Int), .int .u64 (v : Int), .int .i64 (L : Int), .int .i64 (T : Int)] 69 (0, 0))) := (Below.refl _ _).alloc (Nat.le_refl _) _
  have hstA := hst1.later hbA
  have hresA := hres1.later hbA
  have hyA : RvAt (w1.alloc (.cells #[.int .i64 (((N : Int) + 1) : Int), .int .u64 (v : Int), .int .i64 (L : Int), .int .i64 (T : Int)] 69 (0, 0))) w1.heap.size (N + 1, v, L, T) := heap_alloc_new _ _
  have a0 := hstA.c0
  have a1 := hstA.c1
  have a2 := hstA.c2
  have a3 := hstA.c3
  have y0 : (w1.alloc (.cells #[.int .i64 (((N : Int) + 1) : Int), .int .u64 (v : Int), .int .i64 (L : Int), .int .i64 (T : Int)] 69 (0, 0))).cell? ⟨w1.heap.size, 0, none⟩ = some (.int .i64 ((N : Int) + 1)) := hyA.c0
  have y1 := hyA.c1
  have y2 := hyA.c2
  have y3 := hyA.c3
  simp only [] at a0 a1 a2 a3 y1 y2 y3
  have HA := Lib.hid (And.intro (later HB1.out hbA) hresA)
  have HYA := Lib.hid hyA
  have HR1 := Lib.hid hres1
  clear hb1 hst1 hres1 hbA hstA hresA hyA HV
  go_wp2_with fail
  refine (HM.out _ hv (by omega)).mono ?_
  rintro e w' ⟨rfl, rfl⟩
  go_wp2_with fail
  refine (HL.out _).mono ?_
  rintro e w' ⟨rfl, rfl⟩
  go_wp2_with fail
  refine (HTR.out _).mono ?_
  rintro e w' ⟨rfl, rfl⟩
  go_wp2_with fail
  refine (HX.out _ hx (by omega)).mono ?_
  rintro e w' ⟨rfl, rfl⟩
  have hz3 := HS3.out
  go_wp2_with fail
  obtain ⟨wA, hwA⟩ : ∃ wA, (w1.alloc (.cells #[.int .i64 (((N : Int) + 1) : Int), .int .u64 (v : Int), .int .i64 (L : Int), .int .i64 (T : Int)] 69 (0, 0))) = wA := ⟨_, rfl⟩
  rw [hwA] at HA HYA a0 a1 a2 a3 y0 y1 y2 y3 ⊢
  clear hwA
  have hres : RvAt wA (w.heap.size + 1) (0, 0, 0, 0) := HA.out.2
  have d0 : wA.cell? ⟨w.heap.size + 1, 0, none⟩ = some (.int .i64 0) := hres.c0
  have d1 : wA.cell? ⟨w.heap.size + 1, 1, none⟩ = some (.int .u64 0) := hres.c1
  have d2 : wA.cell? ⟨w.heap.size + 1, 2, none⟩ = some (.int .i64 0) := hres.c2
  have d3 : wA.cell? ⟨w.heap.size + 1, 3, none⟩ = some (.int .i64 0) := hres.c3
  have f0 : wA.frozen? ⟨w.heap.size + 1, 0, none⟩ = false := frozen_of_row wA _ 0 _ _ hres
  have f1 : wA.frozen? ⟨w.heap.size + 1, 1, none⟩ = false := frozen_of_row wA _ 1 _ _ hres
  have f2 : wA.frozen? ⟨w.heap.size + 1, 2, none⟩ = false := frozen_of_row wA _ 2 _ _ hres
  have f3 : wA.frozen? ⟨w.heap.size + 1, 3, none⟩ = false := frozen_of_row wA _ 3 _ _ hres
  clear hres k0 k1 k2 k3
  go_region
  have hfr := rset4_row (s := (N + 1, v, L, T)) HA.out.2
  have hfb := rset4_below (.int .i64 (((N : Int) + 1) : Int)) (.int .u64 (v : Int)) (.int .i64 (L : Int)) (.int .i64 (T : Int)) HA.out.1 (show w.heap.size ≤ w.heap.size + 1 by omega)
  have hfr : RvAt ((((wA.setCell ⟨w.heap.size + 1, 0, none⟩ (.int .i64 (((N : Int) + 1) : Int))).setCell ⟨w.heap.size + 1, 1, none⟩ (.int .u64 (v : Int))).setCell ⟨w.heap.size + 1, 2, none⟩ (.int .i64 (L : Int))).setCell ⟨w.heap.size + 1, 3, none⟩ (.int .i64 (T : Int))) (w.heap.size + 1) (N + 1, v, L, T) := hfr
  generalize ((((wA.setCell ⟨w.heap.size + 1, 0, none⟩ (.int .i64 (((N : Int) + 1) : Int))).setCell ⟨w.heap.size + 1, 1, none⟩ (.int .u64 (v : Int))).setCell ⟨w.heap.size + 1, 2, none⟩ (.int .i64 (L : Int))).setCell ⟨w.heap.size + 1, 3, none⟩ (.int .i64 (T : Int))) = w9 at hfr hfb ⊢
  have hfr : RvAt w9.drew (w.heap.size + 1) (N + 1, v, L, T) := hfr
  have r0 : w9.drew.cell? ⟨w.heap.size + 1, 0, none⟩ = some (.int .i64 ((N : Int) + 1)) := hfr.c0
  have r1 := hfr.c1
  have r2 := hfr.c2
  have r3 := hfr.c3
  have HFB := Lib.hid hfb
  simp only [] at r1 r2 r3
  clear hfr hfb d0 d1 d2 d3 f0 f1 f2 f3
  go_wp2
  refine bodyPost_ret (v := .tuple #[.string (⟨#[49, 48]⟩ ++ S3), .agg #[.int .i64 (((N : Int) + 1) : Int), .int .u64 (v : Int), .int .i64 (L : Int), .int .i64 (T : Int)]]) ?_ rfl ⟨rfl, HFB.out.trans ⟨rfl, rfl, rfl, Nat.le_refl _, fun _ _ => rfl⟩⟩
  simp [results, Tryd.results34, go_sem, r0, r1, r2, r3]
set_option maxRecDepth 20000 in
set_option maxHeartbeats 4000000 in
theorem rput_3 (s : Sv) (v : Nat) (w : World) (hs : okV s) (hv : v < 18446744073709551616) (hN : s.1 ≤ 4398046511104) (h0 : ¬ s.1 = 0) (hx0 : ¬ v ^^^ s.2.1 = 0) (hi : ¬ inB s (v ^^^ s.2.1) = true) :
    Calls Tryd.prog 34 #[.agg #[.int .i64 ((s).1 : Int), .int .u64 ((s).2.1 : Int), .int .i64 ((s).2.2.1 : Int), .int .i64 ((s).2.2.2 : Int)], .int .u64 (v : Int)] w fun e w' => e = .returned (.tuple #[.string (bstr (putV s v)), .agg #[.int .i64 ((aftV s v).1 : Int), .int .u64 ((aftV s v).2.1 : Int), .int .i64 ((aftV s v).2.2.1 : Int), .int .i64 ((aftV s v).2.2.2 : Int)]]) ∧ Below w.heap.size w w' := by
  have HV := Lib.hid (fun W => rvalid_ok s W hs)
  obtain ⟨ea, hLT, hway⟩ := put_way s v hs hv
  have hx := xor_lt hv hs.1
  have hw := okW_size hs.2
  have hxr := bits_xor_u64_nat v s.2.1 hv hs.1
  have HM := Lib.hid (rbits_any v 64)
  rw [show within 64 = 64 from rfl] at HM
  have HL : Hid (∀ W, Calls Tryd.prog 47 #[.int .u64 ((v ^^^ s.2.1 : Nat) : Int)] W fun e w' => e = .returned (.int .i64 ((ld (v ^^^ s.2.1) : Nat) : Int)) ∧ W = w') := Lib.hid (fun W => rlead_any _ W hx)
  have HTR : Hid (∀ W, Calls Tryd.prog 48 #[.int .u64 ((v ^^^ s.2.1 : Nat) : Int)] W fun e w' => e = .returned (.int .i64 ((tr (v ^^^ s.2.1) : Nat) : Int)) ∧ W = w') := Lib.hid (fun W => rtrail_any _ W hx)
  have HX := Lib.hid (rbits_any (v ^^^ s.2.1) 64)
  rw [show within 64 = 64 from rfl] at HX
  have hinb := inB_iff s (v ^^^ s.2.1)
  have e1 : putV s v = [true, true] ++ msb (ld (v ^^^ s.2.1)) 6 ++ msb (63 - ld (v ^^^ s.2.1) - tr (v ^^^ s.2.1)) 6 ++ msb ((v ^^^ s.2.1) / 2 ^ tr (v ^^^ s.2.1)) (64 - ld (v ^^^ s.2.1) - tr (v ^^^ s.2.1)) := by unfold putV; rw [if_neg h0, if_neg hx0, if_neg hi]
  have e2 : aftV s v = (s.1 + 1, v, ld (v ^^^ s.2.1), tr (v ^^^ s.2.1)) := by unfold aftV; rw [if_neg (by rintro (h | h | h); exact h0 h; exact hx0 h; exact hi h)]
  rw [e1, e2, bstr_append, bstr_append, bstr_append, ← bstr_oo]
  obtain ⟨n1, n2⟩ := win_new _ hx hx0
  have hno : ¬ (s.2.2.1 < 64 ∧ s.2.2.1 ≤ ld (v ^^^ s.2.1) ∧ s.2.2.2 ≤ tr (v ^^^ s.2.1)) := fun h => hi (hinb.2 h)
  have hb0 : ((s.1 : Int) == 0) = false := by simp; omega
  have hbx : (((v ^^^ s.2.1 : Nat) : Int) == 0) = false := by simp; omega
  have hsz := bstr_size (msb (v ^^^ s.2.1) 64)
  rw [msb_length] at hsz
  have hsl := slice_mid (P := Tryd.prog) Tryd.underlying9 (bstr (msb (v ^^^ s.2.1) 64)) (ld (v ^^^ s.2.1) : Int) (64 - (tr (v ^^^ s.2.1) : Int)) (ld (v ^^^ s.2.1)) (64 - tr (v ^^^ s.2.1)) rfl (by omega) (by omega) (by omega)
  rw [bstr_extract, msb_mid _ _ _ (by omega)] at hsl
  clear ea hLT hway e1 e2 h0 hx0 hi hinb
  obtain ⟨S, hS⟩ : ∃ S, bstr (msb v 64) = S := ⟨_, rfl⟩
  rw [hS] at HM
  clear hS
  obtain ⟨N, V, L, T⟩ := s
  simp only [] at hN hw hb0 HV hxr hbx hsl hx HL HTR HX hsz hno n1 n2 ⊢
  generalize v ^^^ V = x at *
  generalize ld x = lx at *
  generalize tr x = tx at *
  obtain ⟨S2, hS2⟩ : ∃ S2, bstr (msb x 64) = S2 := ⟨_, rfl⟩
  rw [hS2] at HX hsl hsz
  clear hS2
  obtain ⟨S3, hS3⟩ : ∃ S3, bstr (msb (x / 2 ^ tx) (64 - lx - tx)) = S3 := ⟨_, rfl⟩
  rw [hS3] at hsl ⊢
  have HS3 := Lib.hid (show S3.size ≤ 64 by rw [← hS3, bstr_size, msb_length]; omega)
  clear hS3
  have HA6 : Hid (∀ W, Calls Tryd.prog 46 #[.int .u64 (lx : Int), .int .i64 6] W fun e w' => e = .returned (.string (bstr (msb lx 6))) ∧ W = w') := Lib.hid (fun W => by
    have := rbits_any lx 6 W (by omega) (by omega)
    rw [show within 6 = 6 from rfl] at this; exact this)
  have HB6 : Hid (∀ W, Calls Tryd.prog 46 #[.int .u64 (63 - (lx : Int) - (tx : Int)), .int .i64 6] W fun e w' => e = .returned (.string (bstr (msb (63 - lx - tx) 6))) ∧ W = w') := Lib.hid (fun W => by
    have := rbits_any (63 - lx - tx) 6 W (by omega) (by omega)
    rw [show within 6 = 6 from rfl, show ((63 - lx - tx : Nat) : Int) = 63 - (lx : Int) - (tx : Int) by omega] at this; exact this)
  have hz6 := bstr_size (msb lx 6)
  have hz7 := bstr_size (msb (63 - lx - tx) 6)
  rw [msb_length] at hz6 hz7
  obtain ⟨S6, hS6⟩ : ∃ S6, bstr (msb lx 6) = S6 := ⟨_, rfl⟩
  rw [hS6] at HA6 hz6 ⊢
  clear hS6
  obtain ⟨S7, hS7⟩ : ∃ S7, bstr (msb (63 - lx - tx) 6) = S7 := ⟨_, rfl⟩
  rw [hS7] at HB6 hz7 ⊢
  clear hS7
  go_enter Tryd.func34, Tryd.ntmps34
  go_wp2_with fail
  refine (HV.out _).mono ?_
  rintro e w1 ⟨rfl, hb1⟩
  have HB1 := Lib.hid (show Below w.heap.size w w1 from (((Below.refl _ _).alloc (Nat.le_refl _) _).alloc (by simp) _).trans (hb1.mono (by simp; omega)))
  have hst1 : RvAt w1 w.heap.size (N, V, L, T) := RvAt.later (W := (w.alloc (RvObj (N, V, L, T))).alloc (RvObj (0, 0, 0, 0))) ((heap_past _ _ (by simp)).trans (heap_alloc_new w _)) hb1
  have hres1 : RvAt w1 (w.heap.size + 1) (0, 0, 0, 0) := RvAt.later (W := (w.alloc (RvObj (N, V, L, T))).alloc (RvObj (0, 0, 0, 0))) (heap_at _ _ (by simp)) hb1
  have HZ := Lib.hid (show w.heap.size + 1 < w1.heap.size by have := hb1.size; simp at this; omega)
  have k0 := hst1.c0
  have k1 := hst1.c1
  have k2 := hst1.c2
  have k3 := hst1.c3
  simp only [] at k0 k1 k2 k3
  have hbA : Below w1.heap.size w1 (w1.alloc (.cells #[.int .i64 (((N : Int) + 1) : Int), .int .u64 (v : Int), .int .i64 (L : Int), .int .i64 (T : Int)] 69 (0, 0))) := (Below.refl _ _).alloc (Nat.le_refl _) _
  have hstA := hst1.later hbA
  have hresA := hres1.later hbA
  have hyA : RvAt (w1.alloc (.cells #[.int .i64 (((N : Int) + 1) : Int), .int .u64 (v : Int), .int .i64 (L : Int), .int .i64 (T : Int)] 69 (0, 0))) w1.heap.size (N + 1, v, L, T) := heap_alloc_new _ _
  have a0 := hstA.c0
  have a1 := hstA.c1
  have a2 := hstA.c2
  have a3 := hstA.c3
  have y0 : (w1.alloc (.cells #[.int .i64 (((N : Int) + 1) : Int), .int .u64 (v : Int), .int .i64 (L : Int), .int .i64 (T : Int)] 69 (0, 0))).cell? ⟨w1.heap.size, 0, none⟩ = some (.int .i64 ((N : Int) + 1)) := hyA.c0
  have y1 := hyA.c1
  have y2 := hyA.c2
  have y3 := hyA.c3
  simp only [] at a0 a1 a2 a3 y1 y2 y3
  have HA := Lib.hid (And.intro (later HB1.out hbA) hresA)
  have HYA := Lib.hid hyA
  have HR1 := Lib.hid hres1
  clear hb1 hst1 hres1 hbA hstA hresA hyA HV
  go_wp2_with fail
  refine (HM.out _ hv (by omega)).mono ?_
  rintro e w' ⟨rfl, rfl⟩
  go_wp2_with fail
  refine (HL.out _).mono ?_
  rintro e w' ⟨rfl, rfl⟩
  go_wp2_with fail
  refine (HTR.out _).mono ?_
  rintro e w' ⟨rfl, rfl⟩
  go_wp2_with fail
  refine (HX.out _ hx (by omega)).mono ?_
  rintro e w' ⟨rfl, rfl⟩
  have hz3 := HS3.out
  have fz2 : (w1.alloc (.cells #[.int .i64 (((N : Int) + 1) : Int), .int .u64 (v : Int), .int .i64 (L : Int), .int .i64 (T : Int)] 69 (0, 0))).frozen? ⟨w1.heap.size, 2, none⟩ = false := frozen_of_row _ _ _ _ _ HYA.out
  have fz3 : (w1.alloc (.cells #[.int .i64 (((N : Int) + 1) : Int), .int .u64 (v : Int), .int .i64 (L : Int), .int .i64 (T : Int)] 69 (0, 0))).frozen? ⟨w1.heap.size, 3, none⟩ = false := frozen_of_row _ _ _ _ _ HYA.out
  have hyB : RvAt (w1.alloc (.cells #[.int .i64 (((N : Int) + 1) : Int), .int .u64 (v : Int), .int .i64 (lx : Int), .int .i64 (tx : Int)] 69 (0, 0))) w1.heap.size (N + 1, v, lx, tx) := heap_alloc_new _ _
  have hbw : Below w1.heap.size w1 (w1.alloc (.cells #[.int .i64 (((N : Int) + 1) : Int), .int .u64 (v : Int), .int .i64 (lx : Int), .int .i64 (tx : Int)] 69 (0, 0))) := (Below.refl _ _).alloc (Nat.le_refl _) _
  have hresB : RvAt (w1.alloc (.cells #[.int .i64 (((N : Int) + 1) : Int), .int .u64 (v : Int), .int .i64 (lx : Int), .int .i64 (tx : Int)] 69 (0, 0))) (w.heap.size + 1) (0, 0, 0, 0) := HR1.out.later hbw
  have hbB : Below w.heap.size w (w1.alloc (.cells #[.int .i64 (((N : Int) + 1) : Int), .int .u64 (v : Int), .int .i64 (lx : Int), .int .i64 (tx : Int)] 69 (0, 0))) := later HB1.out hbw
  have HYB := Lib.hid (And.intro hyB (And.intro hresB hbB))
  clear hyB hbw hresB hbB
  obtain ⟨n3, n4⟩ : lx + tx ≤ 63 ∧ lx ≤ 63 := by omega
  have ha1 : ∀ W : World, (Op.stringOp .add ⟨#[49, 49]⟩ S6).run Tryd.prog W = .ok (.string (⟨#[49, 49]⟩ ++ S6)) W := fun W => run_string_add_sum W _ _ (by rw [hz6]; decide)
  have ha2 : ∀ W : World, (Op.stringOp .add (⟨#[49, 49]⟩ ++ S6) S7).run Tryd.prog W = .ok (.string (⟨#[49, 49]⟩ ++ S6 ++ S7)) W := fun W => run_string_add_sum W _ _ (by rw [ByteArray.size_append, hz6, hz7]; decide)
  have ha3 : ∀ W : World, (Op.stringOp .add (⟨#[49, 49]⟩ ++ S6 ++ S7) S3).run Tryd.prog W = .ok (.string (⟨#[49, 49]⟩ ++ S6 ++ S7 ++ S3)) W := fun W => run_string_add_sum W _ _ (by rw [ByteArray.size_append, ByteArray.size_append, hz6, hz7, show (⟨#[49, 49]⟩ : ByteArray).size = 2 from rfl]; omega)
  have hcase : (L < 64 ∧ L ≤ lx ∧ ¬ T ≤ tx) ∨ (L < 64 ∧ ¬ L ≤ lx) ∨ ¬ L < 64 := by omega
  have l0 : (0 : Int) ≤ 63 - (lx : Int) - (tx : Int) := by omega
  have l1 : 63 - (lx : Int) - (tx : Int) ≤ 63 := by omega
  have l2 : (lx : Int) ≤ 64 - (tx : Int) := by omega
  have l3 : (0 : Int) ≤ 64 - (tx : Int) := by omega
  have l4 : (64 : Int) - (tx : Int) ≤ 64 := by omega
  have KC6 := Lib.hid (fun W => (HA6.out W).mono fun e w' h => (⟨h.1, h.2.symm⟩ : e = .returned (.string S6) ∧ w' = W))
  have KC7 := Lib.hid (fun W => (HB6.out W).mono fun e w' h => (⟨h.1, h.2.symm⟩ : e = .returned (.string S7) ∧ w' = W))
  clear hno HA6 HB6
  rcases hcase with ⟨j1, j2, j3⟩ | ⟨j1, j2⟩ | j1
  all_goals (
    go_wp2_with fail
    obtain ⟨wB, hwB⟩ : ∃ wB, (w1.alloc (.cells #[.int .i64 (((N : Int) + 1) : Int), .int .u64 (v : Int), .int .i64 (lx : Int), .int .i64 (tx : Int)] 69 (0, 0))) = wB := ⟨_, rfl⟩
    rw [hwB] at HYB ⊢
    clear hwB fz2 fz3 a0 a1 a2 y0 y1 y2 y3 k0 k1 k2 k3
    have d0 : wB.cell? ⟨w1.heap.size, 0, none⟩ = some (.int .i64 ((N : Int) + 1)) := HYB.out.1.c0
    have d1 : wB.cell? ⟨w1.heap.size, 1, none⟩ = some (.int .u64 (v : Int)) := HYB.out.1.c1
    have d2 : wB.cell? ⟨w1.heap.size, 2, none⟩ = some (.int .i64 (lx : Int)) := HYB.out.1.c2
    have d3 : wB.cell? ⟨w1.heap.size, 3, none⟩ = some (.int .i64 (tx : Int)) := HYB.out.1.c3
    have hresd : RvAt wB.drew (w.heap.size + 1) (0, 0, 0, 0) := HYB.out.2.1
    have hbdr : Below w.heap.size w wB.drew := HYB.out.2.2.trans ⟨rfl, rfl, rfl, Nat.le_refl _, fun _ _ => rfl⟩
    have HBD := Lib.hid (show Below w.heap.size w (wB.drew.setRow (w.heap.size + 1) #[.int .i64 (((N : Int) + 1) : Int), .int .u64 (v : Int), .int .i64 (lx : Int), .int .i64 (tx : Int)]) from below_setRow hbdr (Nat.le_succ _) _)
    clear hbdr
    have q0 : IntKind.u64.wrap (lx : Int) = (lx : Int) := by rw [IntKind.wrap_u64]; omega
    have q1 : IntKind.i64.wrap (63 - (lx : Int)) = 63 - (lx : Int) := by rw [IntKind.wrap_i64]; omega
    have q2 : IntKind.i64.wrap (63 - (lx : Int) - (tx : Int)) = 63 - (lx : Int) - (tx : Int) := by rw [IntKind.wrap_i64]; omega
    have q3 : IntKind.u64.wrap (63 - (lx : Int) - (tx : Int)) = 63 - (lx : Int) - (tx : Int) := by rw [IntKind.wrap_u64]; omega
    have q4 : IntKind.i64.wrap (64 - (tx : Int)) = 64 - (tx : Int) := by rw [IntKind.wrap_i64]; omega
    go_still_tail 19, (by kernel_rfl)
    still_call (KC6.out _)
    repeat still_step
    still_call (KC7.out _)
    repeat still_step
    try refine wpStill_nil ?_
    clear q0 q1 q2 q3 q4
    go_wp2_with (refine wpList_store_row rfl 69 _ _ rfl (w.heap.size + 1) #[.int .i64 (((N : Int) + 1) : Int), .int .u64 (v : Int), .int .i64 (lx : Int), .int .i64 (tx : Int)] rfl rfl 69 _ hresd info_rv rfl (by simp [Value.oneCell']) ?_)
    have hr2 : RvAt (wB.drew.setRow (w.heap.size + 1) #[.int .i64 (((N : Int) + 1) : Int), .int .u64 (v : Int), .int .i64 (lx : Int), .int .i64 (tx : Int)]) (w.heap.size + 1) (N + 1, v, lx, tx) := setRow_heap _ _ _ _ _ _ hresd
    have r0 : (wB.drew.setRow (w.heap.size + 1) #[.int .i64 (((N : Int) + 1) : Int), .int .u64 (v : Int), .int .i64 (lx : Int), .int .i64 (tx : Int)]).cell? ⟨w.heap.size + 1, 0, none⟩ = some (.int .i64 ((N : Int) + 1)) := hr2.c0
    have r1 := hr2.c1
    have r2 := hr2.c2
    have r3 := hr2.c3
    simp only [] at r1 r2 r3
    refine bodyPost_ret (v := .tuple #[.string (⟨#[49, 49]⟩ ++ S6 ++ S7 ++ S3), .agg #[.int .i64 (((N : Int) + 1) : Int), .int .u64 (v : Int), .int .i64 (lx : Int), .int .i64 (tx : Int)]]) ?_ rfl ⟨rfl, HBD.out⟩
    simp [results, Tryd.results34, go_sem, r0, r1, r2, r3])
end Go.Proofs.YtdidengokijcjaaDoor.VaW
/-
  alluviumref05.Put, Begin, take: THE WALKS.
-/
namespace Go.Proofs.YtdidengokijcjaaDoor.VaW
set_option linter.unusedVariables false
open Go.RowKit Go.Shelf BitsM BitsW VaM
theorem rput_any (s : Sv) (v : Nat) (w : World) (hs : okV s) (hv : v < 18446744073709551616) (hN : s.1 ≤ 4398046511104) :
    Calls Tryd.prog 34 #[.agg #[.int .i64 ((s).1 : Int), .int .u64 ((s).2.1 : Int), .int .i64 ((s).2.2.1 : Int), .int .i64 ((s).2.2.2 : Int)], .int .u64 (v : Int)] w fun e w' => e = .returned (.tuple #[.string (bstr (putV s v)), .agg #[.int .i64 ((aftV s v).1 : Int), .int .u64 ((aftV s v).2.1 : Int), .int .i64 ((aftV s v).2.2.1 : Int), .int .i64 ((aftV s v).2.2.2 : Int)]]) ∧ Below w.heap.size w w' := by
  by_cases h0 : s.1 = 0
  · exact rput_0 s v w hs hv hN h0
  by_cases hx0 : v ^^^ s.2.1 = 0
  · exact rput_1 s v w hs hv hN h0 hx0
  by_cases hi : inB s (v ^^^ s.2.1) = true
  · exact rput_2 s v w hs hv hN h0 hx0 hi
  · exact rput_3 s v w hs hv hN h0 hx0 hi
theorem rbegin_any (w : World) : Calls Tryd.prog 33 #[] w fun e w' => e = .returned (.agg #[.int .i64 0, .int .u64 0, .int .i64 64, .int .i64 0]) ∧ Below w.heap.size w w' := by
  go_enter Tryd.func33, Tryd.ntmps33
  go_wp2
  exact bodyPost_ret (v := .agg #[.int .i64 0, .int .u64 0, .int .i64 64, .int .i64 0]) (by simp [results, Tryd.results33, go_sem]) rfl ⟨rfl, (Below.refl _ _).alloc (Nat.le_refl _) _⟩
theorem pow_step (V i : Nat) : V * 2 ^ i * 2 = V * 2 ^ (i + 1) := by rw [Nat.pow_succ, Nat.mul_assoc]
end Go.Proofs.YtdidengokijcjaaDoor.VaW
/-
  alluviumref05.Get: THE WALK. (Printed by wip/gen/varefh.py.)
-/
namespace Go.Proofs.YtdidengokijcjaaDoor.VaW
set_option linter.unusedVariables false
open Go.RowKit Go.Shelf BitsM BitsW VaM
/-- What the document's Get tells. -/
def refV (b : List Bool) (s : Sv) : Sv × List Bool × Bool := match getV b s with
  | none => (s, b, false)
  | some (v, k) => (aftV s v, b.drop k, true)
/-- What the document's Get holds the next value for, turned by the last one. -/
def CandR (b : List Bool) (s : Sv) (v0 : Nat) (k : Bool) : Prop := v0 < 18446744073709551616 ∧ ∀ v j, getV b s = some (v, j) → k = true ∧ v = if s.1 = 0 then v0 else v0 ^^^ s.2.1
theorem candR_none {b : List Bool} {s : Sv} (h : getV b s = none) (k : Bool) : CandR b s 0 k := ⟨by decide, fun v j e => by rw [h] at e; cases e⟩
theorem refV_none {b : List Bool} {s : Sv} (h : getV b s = none) : refV b s = (s, b, false) := by unfold refV; rw [h]
theorem cand_first {b : List Bool} {s : Sv} (h0 : s.1 = 0) (hl : 64 ≤ b.length) : CandR b s (numB (b.take 64)) true := by
  refine ⟨by have := numB_take_lt b 64; rw [show (2 : Nat) ^ 64 = 18446744073709551616 by decide] at this; exact this, fun v j e => ?_⟩
  unfold getV at e
  rw [if_pos h0, if_neg (by omega)] at e
  injection e with e
  injection e with e1 e2
  exact ⟨rfl, by rw [if_pos h0, e1]⟩
theorem cand_first_no {b : List Bool} {s : Sv} (h0 : s.1 = 0) (hl : b.length < 64) : getV b s = none := by
  unfold getV; rw [if_pos h0, if_pos hl]
theorem cand_zero {r : List Bool} {s : Sv} (h0 : ¬ s.1 = 0) : CandR (false :: r) s 0 true := by
  refine ⟨by decide, fun v j e => ?_⟩
  unfold getV at e
  rw [if_neg h0] at e
  simp only [] at e
  injection e with e
  injection e with e1 e2
  exact ⟨rfl, by rw [if_neg h0, ← e1, Nat.zero_xor]⟩
theorem cand_in {r : List Bool} {s : Sv} (hs : okV s) (h0 : ¬ s.1 = 0) (hl : 64 - s.2.2.1 - s.2.2.2 ≤ r.length) : CandR (true :: false :: r) s (numB (r.take (64 - s.2.2.1 - s.2.2.2)) * 2 ^ s.2.2.2) true := by
  refine ⟨mul_pow_lt _ _ _ (numB_take_lt r _) (okW_size hs.2), fun v j e => ?_⟩
  unfold getV at e
  rw [if_neg h0] at e
  simp only [] at e
  rw [if_neg (by omega)] at e
  split at e
  · injection e with e
    injection e with e1 e2
    exact ⟨rfl, by rw [if_neg h0, ← e1, Nat.xor_comm]⟩
  · cases e
theorem cand_in_no {r : List Bool} {s : Sv} (h0 : ¬ s.1 = 0) (hl : r.length < 64 - s.2.2.1 - s.2.2.2) : getV (true :: false :: r) s = none := by
  unfold getV; rw [if_neg h0]; simp only []; rw [if_pos hl]
theorem cand_new {r : List Bool} {s : Sv} (h0 : ¬ s.1 = 0) (h1 : 12 ≤ r.length) (h2 : numB (r.take 6) + numB ((r.drop 6).take 6) ≤ 63) (h3 : 12 + (numB ((r.drop 6).take 6) + 1) ≤ r.length) :
    CandR (true :: true :: r) s (numB ((r.drop 12).take (numB ((r.drop 6).take 6) + 1)) * 2 ^ (63 - numB (r.take 6) - numB ((r.drop 6).take 6))) true := by
  refine ⟨?_, fun v j e => ?_⟩
  · have := mul_pow_lt (numB ((r.drop 12).take (numB ((r.drop 6).take 6) + 1))) (numB (r.take 6)) (63 - numB (r.take 6) - numB ((r.drop 6).take 6)) (by
      have h := numB_take_lt (r.drop 12) (numB ((r.drop 6).take 6) + 1)
      rw [show 64 - numB (r.take 6) - (63 - numB (r.take 6) - numB ((r.drop 6).take 6)) = numB ((r.drop 6).take 6) + 1 by omega]; exact h) (by omega)
    exact this
  · unfold getV at e
    rw [if_neg h0] at e
    simp only [] at e
    rw [if_neg (by omega), if_neg (by omega), if_neg (by omega)] at e
    split at e
    · injection e with e
      injection e with e1 e2
      exact ⟨rfl, by rw [if_neg h0, ← e1, Nat.xor_comm]⟩
    · cases e
theorem cand_new_no {r : List Bool} {s : Sv} (h0 : ¬ s.1 = 0) (h : r.length < 12 ∨ 63 < numB (r.take 6) + numB ((r.drop 6).take 6) ∨ r.length < 12 + (numB ((r.drop 6).take 6) + 1)) : getV (true :: true :: r) s = none := by
  unfold getV; rw [if_neg h0]; simp only []
  by_cases h1 : r.length < 12
  · rw [if_pos h1]
  rw [if_neg h1]
  by_cases h2 : 63 < numB (r.take 6) + numB ((r.drop 6).take 6)
  · rw [if_pos h2]
  rw [if_neg h2, if_pos (by omega)]
theorem cand_end {b : List Bool} {s : Sv} {v0 : Nat} {k : Bool} (hs : okV s) (hc : CandR b s v0 k) (v1 : Nat) (hv1 : v1 = if s.1 = 0 then v0 else v0 ^^^ s.2.1) (hlt : v1 < 18446744073709551616) :
    (k = false → refV b s = (s, b, false)) ∧ (b.length < (putV s v1).length → refV b s = (s, b, false)) ∧ (b.take (putV s v1).length ≠ putV s v1 → refV b s = (s, b, false)) ∧
    ((putV s v1).length ≤ b.length → b.take (putV s v1).length = putV s v1 → refV b s = (aftV s v1, b.drop (putV s v1).length, true)) := by
  have key : ∀ v j, getV b s = some (v, j) → k = true ∧ v = v1 ∧ b.take (putV s v1).length = putV s v1 ∧ (putV s v1).length ≤ b.length := fun v j e => by
    obtain ⟨c1, c2⟩ := hc.2 v j e
    obtain ⟨p1, p2, p3, p4⟩ := put_get b s v j hs e
    have ev : v = v1 := by rw [c2, hv1]
    subst ev
    exact ⟨c1, rfl, by rw [← p3]; exact p2, by rw [← p3]; exact p4⟩
  have none_of : (∀ v j, getV b s ≠ some (v, j)) → refV b s = (s, b, false) := fun h => refV_none (by
    cases e : getV b s with
    | none => rfl
    | some p => exact absurd e (h p.1 p.2))
  refine ⟨fun h => none_of fun v j e => ?_, fun h => none_of fun v j e => ?_, fun h => none_of fun v j e => ?_, fun h1 h2 => ?_⟩
  · have := (key v j e).1; rw [h] at this; cases this
  · have := (key v j e).2.2.2; omega
  · exact h (key v j e).2.2.1
  · have e : b = putV s v1 ++ b.drop (putV s v1).length := by conv => lhs; rw [← List.take_append_drop (putV s v1).length b, h2]
    have hg : getV b s = some (v1, (putV s v1).length) := by rw [e]; exact get_put s v1 hs hlt _
    unfold refV; rw [hg]
theorem chr_49 (y : Bool) : (((chr y).toNat : Int) == 49) = y := by cases y <;> decide
theorem chr_48 (y : Bool) : (((chr y).toNat : Int) == 48) = !y := by cases y <;> decide

end Go.Proofs.YtdidengokijcjaaDoor.VaW
