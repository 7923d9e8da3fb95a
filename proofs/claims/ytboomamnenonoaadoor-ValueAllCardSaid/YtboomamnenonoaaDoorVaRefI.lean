/-
  alluviumref05.All, Read: THE WALKS.
-/
import Derived.Test.YtboomamnenonoaaDoorVaRefH
import Derived.Test.YtboomamnenonoaaDoorVaAll
import Derived.Deep.RegionHeld3
namespace Go.Proofs.YtboomamnenonoaaDoor.VaW
set_option linter.unusedVariables false
open Go.RowKit Go.Shelf BitsM BitsW VaM
theorem bstr_nil : (⟨#[]⟩ : ByteArray) = bstr [] := rfl
theorem rset4_at {W : World} {g : Nat} {s : Sv} (h : RvAt W g (0, 0, 0, 0)) : RvAt ((((W.setCell ⟨g, 0, none⟩ (.int .i64 (s.1 : Int))).setCell ⟨g, 1, none⟩ (.int .u64 (s.2.1 : Int))).setCell ⟨g, 2, none⟩ (.int .i64 (s.2.2.1 : Int))).setCell ⟨g, 3, none⟩ (.int .i64 (s.2.2.2 : Int))) g s := rset4_row h
set_option maxRecDepth 20000 in
set_option maxHeartbeats 8000000 in
theorem rall_any (A : Option Addr) (n c : Nat) (l : List Nat) (w : World) (hl : Comes w 1 encU okU A n c l) (hn : n ≤ 1000000) :
    Calls Tryd.prog 12 #[.slice A n c] w fun e w' => e = .returned (.string ⟨(pack (bitsV v0 l)).toArray⟩) ∧ Below w.heap.size w w' := by
  have HL := Lib.hid hl
  have hcap : c ≤ 9223372036854775807 := hl.cap
  have hle := hl.le
  clear hl
  go_enter Tryd.func12, Tryd.ntmps12
  go_wp2_with fail
  refine (rbegin_any _).mono ?_
  rintro e wz ⟨rfl, hbz⟩
  have HB0 : Hid (Below w.heap.size w (wz.alloc (RvObj v0)) ∧ RvAt (wz.alloc (RvObj v0)) wz.heap.size v0) := Lib.hid (And.intro (hbz.alloc hbz.size _) (heap_alloc_new wz _))
  have HZW := Lib.hid hbz.size
  clear hbz
  obtain ⟨G, hG⟩ : ∃ G, wz.heap.size = G := ⟨_, rfl⟩
  go_wp2_with fail
  rw [hG] at HB0 HZW
  try rw [hG]
  go_loopw [3, 5, 6, 7] (fun v3 v5 _ _ wr => ∃ k : Nat, k ≤ n ∧ v5 = .int .i64 k ∧ v3 = .string (bstr (bitsV v0 (l.take k))) ∧ Below w.heap.size w wr ∧ RvAt wr G (stV v0 (l.take k))) (fun _ v5 _ _ _ => n - (intOf v5).toNat)
  case atStart => exact ⟨0, Nat.zero_le _, rfl, rfl, HB0.out.1, HB0.out.2⟩
  case round =>
    clear hG
    obtain ⟨k, hk, rfl, rfl, ho, hst⟩ := hrel
    have hln := HL.out.len
    by_cases hlt : k < n
    · have hkl : k < l.length := by omega
      obtain ⟨b, o, rfl, hcs⟩ := u_cells HL.out.lies hkl
      have hc0 := hcs _ ho
      have htk := take_snocL l k hkl
      have e1 : bitsV v0 (l.take (k + 1)) = bitsV v0 (l.take k) ++ putV (stV v0 (l.take k)) l[k] := by rw [htk, bitsV_snoc]
      have e2 : stV v0 (l.take (k + 1)) = aftV (stV v0 (l.take k)) l[k] := by rw [htk, stV_snoc]
      have hbl := bitsV_len v0 (l.take k)
      have hNl := stV_N v0 (l.take k)
      have hoV := ok_take HL.out.ok k
      have hok : l[k] < 18446744073709551616 := HL.out.ok l[k] (List.getElem_mem hkl)
      rw [List.length_take, Nat.min_eq_left (by omega)] at hbl hNl
      have hpl := (putV_len (stV v0 (l.take k)) l[k]).1
      generalize l[k] = t at *
      generalize bitsV v0 (l.take k) = bs at *
      generalize stV v0 (l.take k) = s at *
      obtain ⟨N, V, L, T⟩ := s
      have hN9 : (N, V, L, T).1 ≤ 4398046511104 := by
        have : N = 0 + k := hNl
        show N ≤ _; omega
      have HP := Lib.hid (fun W => rput_any (N, V, L, T) t W hoV hok hN9)
      generalize putV (N, V, L, T) t = P at *
      generalize hs' : aftV (N, V, L, T) t = s' at *
      obtain ⟨x, y, z, u⟩ := s'
      have HE := Lib.hid (And.intro e1 e2)
      have c0 := hst.c0
      have c1 := hst.c1
      have c2 := hst.c2
      have c3 := hst.c3
      have HS := Lib.hid (And.intro ho hst)
      have hz1 := bstr_size bs
      have hz2 := bstr_size P
      obtain ⟨q1, hq1⟩ : ∃ q1, bs.length = q1 := ⟨_, rfl⟩
      obtain ⟨q2, hq2⟩ : ∃ q2, P.length = q2 := ⟨_, rfl⟩
      rw [hq1] at hz1 hbl
      rw [hq2] at hz2 hpl
      have i0 : (0 : Int) ≤ (k : Int) := by omega
      have i1 : (k : Int) < (n : Int) := by omega
      have HCS := Lib.hid hcs
      clear ho hst hln hcs htk e1 e2 hs' hq1 hq2 hNl hoV hok hN9
      simp only [] at c0 c1 c2 c3
      have K := Lib.hid (fun (W W' : World) (h : Below w.heap.size w W ∧ RvAt W G (N, V, L, T)) (hb' : Below W.heap.size W W') =>
        (⟨⟨later h.1 hb', h.2.later hb'⟩, HCS.out _ (later h.1 hb'), (h.2.later hb').c0, (h.2.later hb').c1, (h.2.later hb').c2, (h.2.later hb').c3⟩ :
          (Below w.heap.size w W' ∧ RvAt W' G (N, V, L, T)) ∧ W'.cell? ⟨b, o + k, none⟩ = some (.int .u64 (t : Int)) ∧ W'.cell? ⟨G, 0, none⟩ = some (.int .i64 (N : Int)) ∧ W'.cell? ⟨G, 1, none⟩ = some (.int .u64 (V : Int)) ∧ W'.cell? ⟨G, 2, none⟩ = some (.int .i64 (L : Int)) ∧ W'.cell? ⟨G, 3, none⟩ = some (.int .i64 (T : Int))))
      have hS0 := K.out _ _ HS.out (below_self_drew wr)
      have K2 := Lib.hid (fun (W' : World) (h1 : Below w.heap.size w W') (h2 : RvAt W' G (N, V, L, T)) =>
        (⟨⟨h1, h2⟩, HCS.out _ h1, h2.c0, h2.c1, h2.c2, h2.c3⟩ : (Below w.heap.size w W' ∧ RvAt W' G (N, V, L, T)) ∧ W'.cell? ⟨b, o + k, none⟩ = some (.int .u64 (t : Int)) ∧ W'.cell? ⟨G, 0, none⟩ = some (.int .i64 (N : Int)) ∧ W'.cell? ⟨G, 1, none⟩ = some (.int .u64 (V : Int)) ∧ W'.cell? ⟨G, 2, none⟩ = some (.int .i64 (L : Int)) ∧ W'.cell? ⟨G, 3, none⟩ = some (.int .i64 (T : Int))))
      have hwz : G + 1 ≤ wr.heap.size := (Array.getElem?_eq_some_iff.1 HS.out.2).1
      have hGw : w.heap.size ≤ G := HZW.out
      have K3 := Lib.hid (fun (W9 : World) (h : Below wr.drew.heap.size wr.drew W9) (ob : Obj) => K.out wr.drew (W9.alloc ob) hS0.1 (h.alloc h.size ob))
      have K5 := Lib.hid (fun (ob : Obj) => K.out wr (wr.alloc ob).drew HS.out (show Below wr.heap.size wr (wr.alloc ob).drew from ((Below.refl _ _).alloc (Nat.le_refl _) ob).trans ⟨rfl, rfl, rfl, Nat.le_refl _, fun _ _ => rfl⟩))
      have Z := Lib.hid (fun (W9 : World) (h : Below (wr.alloc (.cells #[.int .i64 0, .int .u64 0, .int .i64 0, .int .i64 0] 47 (0, 0))).drew.heap.size (wr.alloc (.cells #[.int .i64 0, .int .u64 0, .int .i64 0, .int .i64 0] 47 (0, 0))).drew W9) =>
        have hz : RvAt W9 wr.heap.size (0, 0, 0, 0) := RvAt.later (W := (wr.alloc (.cells #[.int .i64 0, .int .u64 0, .int .i64 0, .int .i64 0] 47 (0, 0))).drew) (heap_alloc_new wr _) h
        (⟨hz.c0, hz.c1, hz.c2, hz.c3, frozen_of_row W9 _ 0 _ _ hz, frozen_of_row W9 _ 1 _ _ hz, frozen_of_row W9 _ 2 _ _ hz, frozen_of_row W9 _ 3 _ _ hz⟩ :
          W9.cell? ⟨wr.heap.size, 0, none⟩ = some (.int .i64 0) ∧ W9.cell? ⟨wr.heap.size, 1, none⟩ = some (.int .u64 0) ∧ W9.cell? ⟨wr.heap.size, 2, none⟩ = some (.int .i64 0) ∧ W9.cell? ⟨wr.heap.size, 3, none⟩ = some (.int .i64 0) ∧ W9.frozen? ⟨wr.heap.size, 0, none⟩ = false ∧ W9.frozen? ⟨wr.heap.size, 1, none⟩ = false ∧ W9.frozen? ⟨wr.heap.size, 2, none⟩ = false ∧ W9.frozen? ⟨wr.heap.size, 3, none⟩ = false))
      have HPZ := Lib.hid ((HP.out (wr.alloc (.cells #[.int .i64 0, .int .u64 0, .int .i64 0, .int .i64 0] 47 (0, 0))).drew).mono fun e W9 h => (And.intro h.1 (And.intro h.2 (Z.out _ h.2)) : _))
      have K4 := Lib.hid (fun (W9 : World) (ob : Obj) (h : Below (wr.alloc ob).drew.heap.size (wr.alloc ob).drew W9) (a b' c' d' : Value) =>
        K2.out ((((W9.setCell ⟨wr.heap.size, 0, none⟩ a).setCell ⟨wr.heap.size, 1, none⟩ b').setCell ⟨wr.heap.size, 2, none⟩ c').setCell ⟨wr.heap.size, 3, none⟩ d')
          (rset4_below _ _ _ _ (hS0.1.1.trans (((Below.refl _ _).alloc (Nat.le_refl _) ob).mono hS0.1.1.size |>.trans (h.mono (Nat.le_trans hS0.1.1.size (by simp))))) (by omega))
          ((rset4_other _ _ _ _ _ _ _ (by omega)).trans
            ((hS0.1.2.later ((Below.refl _ _).alloc (Nat.le_refl _) ob)).later h)))
      clear c0 c1 c2 c3 hc0
      go_wp2_with fail
      go_region_held3 (fun W : World => (Below w.heap.size w W ∧ RvAt W G (N, V, L, T)) ∧ W.cell? ⟨b, o + k, none⟩ = some (.int .u64 (t : Int)) ∧ W.cell? ⟨G, 0, none⟩ = some (.int .i64 (N : Int)) ∧ W.cell? ⟨G, 1, none⟩ = some (.int .u64 (V : Int)) ∧ W.cell? ⟨G, 2, none⟩ = some (.int .i64 (L : Int)) ∧ W.cell? ⟨G, 3, none⟩ = some (.int .i64 (T : Int)))
        (first | exact hS0 | exact K5.out _ | exact K.out _ _ (And.left (by assumption)) (by assumption) | exact K3.out _ (by assumption) _ | exact K4.out _ _ (by assumption) _ _ _ _)
        (first
          | (go_at_call 28; refine HPZ.out.mono ?_; rintro e w9 ⟨rfl, hb9, z0, z1, z2, z3, y0, y1, y2, y3⟩)
          | (go_at_call 28; refine (HP.out _).mono ?_; rintro e w9 ⟨rfl, hb9⟩))
      · rename_i hh
        have ht4 := heap_alloc_new w9 (RvObj (x, y, z, u))
        change RvAt (w9.alloc (.cells #[.int .i64 (x : Int), .int .u64 (y : Int), .int .i64 (z : Int), .int .i64 (u : Int)] 47 (0, 0))) w9.heap.size (x, y, z, u) at ht4
        generalize w9.alloc (.cells #[.int .i64 (x : Int), .int .u64 (y : Int), .int .i64 (z : Int), .int .i64 (u : Int)] 47 (0, 0)) = w4 at hh ht4 ⊢
        have HB4 := Lib.hid hh.1.1
        have hst4 := hh.1.2
        have k0 := ht4.c0
        have k1 := ht4.c1
        have k2 := ht4.c2
        have k3 := ht4.c3
        simp only [] at k0 k1 k2 k3
        clear hh ht4 K K2 K3 K4 K5 HPZ hS0 Z HP hb9
        go_wp2_with (refine wpList_store_row rfl 47 _ _ rfl G #[.int .i64 (x : Int), .int .u64 (y : Int), .int .i64 (z : Int), .int .i64 (u : Int)] rfl rfl 47 _ hst4 info_rv rfl (by simp [Value.oneCell']) ?_; have HB5 := Lib.hid (below_setRow HB4.out hGw #[.int .i64 (x : Int), .int .u64 (y : Int), .int .i64 (z : Int), .int .i64 (u : Int)]); have HR5 : Hid (RvAt (w4.setRow G #[.int .i64 (x : Int), .int .u64 (y : Int), .int .i64 (z : Int), .int .i64 (u : Int)]) G (x, y, z, u)) := Lib.hid (setRow_heap _ _ _ _ _ _ hst4); clear hst4 k0 k1 k2 k3; generalize w4.setRow G #[.int .i64 (x : Int), .int .u64 (y : Int), .int .i64 (z : Int), .int .i64 (u : Int)] = w5 at HB5 HR5 ⊢)
        go_roundw
        case rel => exact ⟨k + 1, by omega, by go_num, by rw [HE.out.1, bstr_append], HB5.out, by rw [HE.out.2]; exact HR5.out⟩
        case measure => simp [intOf]; omega
      · rename_i hh
        have hz9 : RvAt w9 wr.heap.size (0, 0, 0, 0) := RvAt.later (W := (wr.alloc (RvObj (0, 0, 0, 0))).drew) (heap_alloc_new wr _) hb9
        have ht4 : RvAt ((((w9.setCell ⟨wr.heap.size, 0, none⟩ (.int .i64 (x : Int))).setCell ⟨wr.heap.size, 1, none⟩ (.int .u64 (y : Int))).setCell ⟨wr.heap.size, 2, none⟩ (.int .i64 (z : Int))).setCell ⟨wr.heap.size, 3, none⟩ (.int .i64 (u : Int))) wr.heap.size (x, y, z, u) := rset4_at (s := (x, y, z, u)) hz9
        generalize (((w9.setCell ⟨wr.heap.size, 0, none⟩ (.int .i64 (x : Int))).setCell ⟨wr.heap.size, 1, none⟩ (.int .u64 (y : Int))).setCell ⟨wr.heap.size, 2, none⟩ (.int .i64 (z : Int))).setCell ⟨wr.heap.size, 3, none⟩ (.int .i64 (u : Int)) = w4 at hh ht4 ⊢
        have HB4 := Lib.hid hh.1.1
        have hst4 := hh.1.2
        have k0 := ht4.c0
        have k1 := ht4.c1
        have k2 := ht4.c2
        have k3 := ht4.c3
        simp only [] at k0 k1 k2 k3
        clear hh ht4 K K2 K3 K4 K5 HPZ hS0 Z HP hb9
        go_wp2_with (refine wpList_store_row rfl 47 _ _ rfl G #[.int .i64 (x : Int), .int .u64 (y : Int), .int .i64 (z : Int), .int .i64 (u : Int)] rfl rfl 47 _ hst4 info_rv rfl (by simp [Value.oneCell']) ?_; have HB5 := Lib.hid (below_setRow HB4.out hGw #[.int .i64 (x : Int), .int .u64 (y : Int), .int .i64 (z : Int), .int .i64 (u : Int)]); have HR5 : Hid (RvAt (w4.setRow G #[.int .i64 (x : Int), .int .u64 (y : Int), .int .i64 (z : Int), .int .i64 (u : Int)]) G (x, y, z, u)) := Lib.hid (setRow_heap _ _ _ _ _ _ hst4); clear hst4 k0 k1 k2 k3; generalize w4.setRow G #[.int .i64 (x : Int), .int .u64 (y : Int), .int .i64 (z : Int), .int .i64 (u : Int)] = w5 at HB5 HR5 ⊢)
        go_roundw
        case rel => exact ⟨k + 1, by omega, by go_num, by rw [HE.out.1, bstr_append], HB5.out, by rw [HE.out.2]; exact HR5.out⟩
        case measure => simp [intOf]; omega
    · obtain rfl : k = n := by omega
      rw [List.take_of_length_le (by omega)]
      have HO := Lib.hid ho
      have hbl := bitsV_len v0 l
      have HBY := Lib.hid (rbytes_any (bitsV v0 l) wr (by omega))
      obtain ⟨bs, hbs⟩ : ∃ bs, bitsV v0 l = bs := ⟨_, rfl⟩
      have HBS := Lib.hid hbs
      rw [hbs] at HBY ⊢
      clear ho hst hln hbl hbs
      go_wp2_with fail
      refine HBY.out.mono ?_
      rintro e w9 ⟨rfl, hb9⟩
      have HB9 := Lib.hid (later HO.out hb9)
      clear hb9
      go_wp2
      go_ret
      exact ⟨by rw [HBS.out]; rfl, HB9.out⟩
end Go.Proofs.YtboomamnenonoaaDoor.VaW
