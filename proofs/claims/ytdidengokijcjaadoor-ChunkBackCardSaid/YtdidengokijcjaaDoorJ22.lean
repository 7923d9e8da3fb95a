/-
  alluviumref05.All, Read: THE WALKS.
  THE WALKS OF THE DOCUMENT's ANSWER FOR THE CHECK (alluviumref01), bit by bit.
  WHAT THE ROWS' CONDITION 'laid' GIVES THE WALKS: math/bits' table.
-/
import Derived.Test.YtdidengokijcjaaDoorJ21
import Derived.Test.YtdidengokijcjaaDoorJ18
import Derived.Deep.RegionHeld3
import Derived.Test.YtdidengokijcjaaDoorJ19
import Derived.Deep.DeepMust
import Derived.Test.YtdidengokijcjaaDoorJ15
import Derived.Test.YtdidengokijcjaaDoorJ01
import Derived.Test.YtdidengokijcjaaDoorJ11
import Derived.Lib.LaidU8
import Derived.LaidMore
/-
  alluviumref05.All, Read: THE WALKS.
-/
namespace Go.Proofs.YtdidengokijcjaaDoor.VaW
set_option linter.unusedVariables false
open Go.RowKit Go.Shelf BitsM BitsW VaM
theorem bstr_nil : (⟨#[]⟩ : ByteArray) = bstr [] := rfl
theorem rset4_at {W : World} {g : Nat} {s : Sv} (h : RvAt W g (0, 0, 0, 0)) : RvAt ((((W.setCell ⟨g, 0, none⟩ (.int .i64 (s.1 : Int))).setCell ⟨g, 1, none⟩ (.int .u64 (s.2.1 : Int))).setCell ⟨g, 2, none⟩ (.int .i64 (s.2.2.1 : Int))).setCell ⟨g, 3, none⟩ (.int .i64 (s.2.2.2 : Int))) g s := rset4_row h
set_option maxRecDepth 20000 in
set_option maxHeartbeats 8000000 in
theorem rall_any (A : Option Addr) (n c : Nat) (l : List Nat) (w : World) (hl : Comes w 1 encU okU A n c l) (hn : n ≤ 1000000) :
    Calls Tryd.prog 25 #[.slice A n c] w fun e w' => e = .returned (.string ⟨(pack (bitsV v0 l)).toArray⟩) ∧ Below w.heap.size w w' := by
  have HL := Lib.hid hl
  have hcap : c ≤ 9223372036854775807 := hl.cap
  have hle := hl.le
  clear hl
  go_enter Tryd.func25, Tryd.ntmps25
  go_wp2_with fail
  refine (rbegin_any _).mono ?_
  rintro e wz ⟨rfl, hbz⟩
  have HB0 : Hid (Below w.heap.size w (wz.alloc (RvObj v0)) ∧ RvAt (wz.alloc (RvObj v0)) wz.heap.size v0) := Lib.hid (And.intro (hbz.alloc hbz.size _) (heap_alloc_new wz _))
  have HZW := Lib.hid hbz.size
  clear hbz
  obtain ⟨G, hG⟩ : ∃ G, wz.heap.size = G := ⟨_, rfl⟩
  go_wp2_with fail
  rw [hG] at HB0 HZW
  try rw [hG]
  go_loopw [3, 5, 6, 7] (fun v3 v5 _ _ wr => ∃ k : Nat, k ≤ n ∧ v5 = .int .i64 k ∧ v3 = .string (bstr (bitsV v0 (l.take k))) ∧ Below w.heap.size w wr ∧ RvAt wr G (stV v0 (l.take k))) (fun _ v5 _ _ _ => n - (intOf v5).toNat)
  case atStart => exact ⟨0, Nat.zero_le _, rfl, rfl, HB0.out.1, HB0.out.2⟩
  case round =>
    clear hG
    obtain ⟨k, hk, rfl, rfl, ho, hst⟩ := hrel
    have hln := HL.out.len
    by_cases hlt : k < n
    · have hkl : k < l.length := by omega
      obtain ⟨b, o, rfl, hcs⟩ := u_cells HL.out.lies hkl
      have hc0 := hcs _ ho
      have htk := take_snocL l k hkl
      have e1 : bitsV v0 (l.take (k + 1)) = bitsV v0 (l.take k) ++ putV (stV v0 (l.take k)) l[k] := by rw [htk, bitsV_snoc]
      have e2 : stV v0 (l.take (k + 1)) = aftV (stV v0 (l.take k)) l[k] := by rw [htk, stV_snoc]
      have hbl := bitsV_len v0 (l.take k)
      have hNl := stV_N v0 (l.take k)
      have hoV := ok_take HL.out.ok k
      have hok : l[k] < 18446744073709551616 := HL.out.ok l[k] (List.getElem_mem hkl)
      rw [List.length_take, Nat.min_eq_left (by omega)] at hbl hNl
      have hpl := (putV_len (stV v0 (l.take k)) l[k]).1
      generalize l[k] = t at *
      generalize bitsV v0 (l.take k) = bs at *
      generalize stV v0 (l.take k) = s at *
      obtain ⟨N, V, L, T⟩ := s
      have hN9 : (N, V, L, T).1 ≤ 4398046511104 := by
        have : N = 0 + k := hNl
        show N ≤ _; omega
      have HP := Lib.hid (fun W => rput_any (N, V, L, T) t W hoV hok hN9)
      generalize putV (N, V, L, T) t = P at *
      generalize hs' : aftV (N, V, L, T) t = s' at *
      obtain ⟨x, y, z, u⟩ := s'
      have HE := Lib.hid (And.intro e1 e2)
      have c0 := hst.c0
      have c1 := hst.c1
      have c2 := hst.c2
      have c3 := hst.c3
      have HS := Lib.hid (And.intro ho hst)
      have hz1 := bstr_size bs
      have hz2 := bstr_size P
      obtain ⟨q1, hq1⟩ : ∃ q1, bs.length = q1 := ⟨_, rfl⟩
      obtain ⟨q2, hq2⟩ : ∃ q2, P.length = q2 := ⟨_, rfl⟩
      rw [hq1] at hz1 hbl
      rw [hq2] at hz2 hpl
      have i0 : (0 : Int) ≤ (k : Int) := by omega
      have i1 : (k : Int) < (n : Int) := by omega
      have HCS := Lib.hid hcs
      clear ho hst hln hcs htk e1 e2 hs' hq1 hq2 hNl hoV hok hN9
      simp only [] at c0 c1 c2 c3
      have K := Lib.hid (fun (W W' : World) (h : Below w.heap.size w W ∧ RvAt W G (N, V, L, T)) (hb' : Below W.heap.size W W') =>
        (⟨⟨later h.1 hb', h.2.later hb'⟩, HCS.out _ (later h.1 hb'), (h.2.later hb').c0, (h.2.later hb').c1, (h.2.later hb').c2, (h.2.later hb').c3⟩ :
          (Below w.heap.size w W' ∧ RvAt W' G (N, V, L, T)) ∧ W'.cell? ⟨b, o + k, none⟩ = some (.int .u64 (t : Int)) ∧ W'.cell? ⟨G, 0, none⟩ = some (.int .i64 (N : Int)) ∧ W'.cell? ⟨G, 1, none⟩ = some (.int .u64 (V : Int)) ∧ W'.cell? ⟨G, 2, none⟩ = some (.int .i64 (L : Int)) ∧ W'.cell? ⟨G, 3, none⟩ = some (.int .i64 (T : Int))))
      have hS0 := K.out _ _ HS.out (below_self_drew wr)
      have K2 := Lib.hid (fun (W' : World) (h1 : Below w.heap.size w W') (h2 : RvAt W' G (N, V, L, T)) =>
        (⟨⟨h1, h2⟩, HCS.out _ h1, h2.c0, h2.c1, h2.c2, h2.c3⟩ : (Below w.heap.size w W' ∧ RvAt W' G (N, V, L, T)) ∧ W'.cell? ⟨b, o + k, none⟩ = some (.int .u64 (t : Int)) ∧ W'.cell? ⟨G, 0, none⟩ = some (.int .i64 (N : Int)) ∧ W'.cell? ⟨G, 1, none⟩ = some (.int .u64 (V : Int)) ∧ W'.cell? ⟨G, 2, none⟩ = some (.int .i64 (L : Int)) ∧ W'.cell? ⟨G, 3, none⟩ = some (.int .i64 (T : Int))))
      have hwz : G + 1 ≤ wr.heap.size := (Array.getElem?_eq_some_iff.1 HS.out.2).1
      have hGw : w.heap.size ≤ G := HZW.out
      have K3 := Lib.hid (fun (W9 : World) (h : Below wr.drew.heap.size wr.drew W9) (ob : Obj) => K.out wr.drew (W9.alloc ob) hS0.1 (h.alloc h.size ob))
      have K5 := Lib.hid (fun (ob : Obj) => K.out wr (wr.alloc ob).drew HS.out (show Below wr.heap.size wr (wr.alloc ob).drew from ((Below.refl _ _).alloc (Nat.le_refl _) ob).trans ⟨rfl, rfl, rfl, Nat.le_refl _, fun _ _ => rfl⟩))
      have Z := Lib.hid (fun (W9 : World) (h : Below (wr.alloc (.cells #[.int .i64 0, .int .u64 0, .int .i64 0, .int .i64 0] 69 (0, 0))).drew.heap.size (wr.alloc (.cells #[.int .i64 0, .int .u64 0, .int .i64 0, .int .i64 0] 69 (0, 0))).drew W9) =>
        have hz : RvAt W9 wr.heap.size (0, 0, 0, 0) := RvAt.later (W := (wr.alloc (.cells #[.int .i64 0, .int .u64 0, .int .i64 0, .int .i64 0] 69 (0, 0))).drew) (heap_alloc_new wr _) h
        (⟨hz.c0, hz.c1, hz.c2, hz.c3, frozen_of_row W9 _ 0 _ _ hz, frozen_of_row W9 _ 1 _ _ hz, frozen_of_row W9 _ 2 _ _ hz, frozen_of_row W9 _ 3 _ _ hz⟩ :
          W9.cell? ⟨wr.heap.size, 0, none⟩ = some (.int .i64 0) ∧ W9.cell? ⟨wr.heap.size, 1, none⟩ = some (.int .u64 0) ∧ W9.cell? ⟨wr.heap.size, 2, none⟩ = some (.int .i64 0) ∧ W9.cell? ⟨wr.heap.size, 3, none⟩ = some (.int .i64 0) ∧ W9.frozen? ⟨wr.heap.size, 0, none⟩ = false ∧ W9.frozen? ⟨wr.heap.size, 1, none⟩ = false ∧ W9.frozen? ⟨wr.heap.size, 2, none⟩ = false ∧ W9.frozen? ⟨wr.heap.size, 3, none⟩ = false))
      have HPZ := Lib.hid ((HP.out (wr.alloc (.cells #[.int .i64 0, .int .u64 0, .int .i64 0, .int .i64 0] 69 (0, 0))).drew).mono fun e W9 h => (And.intro h.1 (And.intro h.2 (Z.out _ h.2)) : _))
      have K4 := Lib.hid (fun (W9 : World) (ob : Obj) (h : Below (wr.alloc ob).drew.heap.size (wr.alloc ob).drew W9) (a b' c' d' : Value) =>
        K2.out ((((W9.setCell ⟨wr.heap.size, 0, none⟩ a).setCell ⟨wr.heap.size, 1, none⟩ b').setCell ⟨wr.heap.size, 2, none⟩ c').setCell ⟨wr.heap.size, 3, none⟩ d')
          (rset4_below _ _ _ _ (hS0.1.1.trans (((Below.refl _ _).alloc (Nat.le_refl _) ob).mono hS0.1.1.size |>.trans (h.mono (Nat.le_trans hS0.1.1.size (by simp))))) (by omega))
          ((rset4_other _ _ _ _ _ _ _ (by omega)).trans
            ((hS0.1.2.later ((Below.refl _ _).alloc (Nat.le_refl _) ob)).later h)))
      clear c0 c1 c2 c3 hc0
      go_wp2_with fail
      go_region_held3 (fun W : World => (Below w.heap.size w W ∧ RvAt W G (N, V, L, T)) ∧ W.cell? ⟨b, o + k, none⟩ = some (.int .u64 (t : Int)) ∧ W.cell? ⟨G, 0, none⟩ = some (.int .i64 (N : Int)) ∧ W.cell? ⟨G, 1, none⟩ = some (.int .u64 (V : Int)) ∧ W.cell? ⟨G, 2, none⟩ = some (.int .i64 (L : Int)) ∧ W.cell? ⟨G, 3, none⟩ = some (.int .i64 (T : Int)))
        (first | exact hS0 | exact K5.out _ | exact K.out _ _ (And.left (by assumption)) (by assumption) | exact K3.out _ (by assumption) _ | exact K4.out _ _ (by assumption) _ _ _ _)
        (first
          | (go_at_call 34; refine HPZ.out.mono ?_; rintro e w9 ⟨rfl, hb9, z0, z1, z2, z3, y0, y1, y2, y3⟩)
          | (go_at_call 34; refine (HP.out _).mono ?_; rintro e w9 ⟨rfl, hb9⟩))
      · rename_i hh
        have ht4 := heap_alloc_new w9 (RvObj (x, y, z, u))
        change RvAt (w9.alloc (.cells #[.int .i64 (x : Int), .int .u64 (y : Int), .int .i64 (z : Int), .int .i64 (u : Int)] 69 (0, 0))) w9.heap.size (x, y, z, u) at ht4
        generalize w9.alloc (.cells #[.int .i64 (x : Int), .int .u64 (y : Int), .int .i64 (z : Int), .int .i64 (u : Int)] 69 (0, 0)) = w4 at hh ht4 ⊢
        have HB4 := Lib.hid hh.1.1
        have hst4 := hh.1.2
        have k0 := ht4.c0
        have k1 := ht4.c1
        have k2 := ht4.c2
        have k3 := ht4.c3
        simp only [] at k0 k1 k2 k3
        clear hh ht4 K K2 K3 K4 K5 HPZ hS0 Z HP hb9
        go_wp2_with (refine wpList_store_row rfl 69 _ _ rfl G #[.int .i64 (x : Int), .int .u64 (y : Int), .int .i64 (z : Int), .int .i64 (u : Int)] rfl rfl 69 _ hst4 info_rv rfl (by simp [Value.oneCell']) ?_; have HB5 := Lib.hid (below_setRow HB4.out hGw #[.int .i64 (x : Int), .int .u64 (y : Int), .int .i64 (z : Int), .int .i64 (u : Int)]); have HR5 : Hid (RvAt (w4.setRow G #[.int .i64 (x : Int), .int .u64 (y : Int), .int .i64 (z : Int), .int .i64 (u : Int)]) G (x, y, z, u)) := Lib.hid (setRow_heap _ _ _ _ _ _ hst4); clear hst4 k0 k1 k2 k3; generalize w4.setRow G #[.int .i64 (x : Int), .int .u64 (y : Int), .int .i64 (z : Int), .int .i64 (u : Int)] = w5 at HB5 HR5 ⊢)
        go_roundw
        case rel => exact ⟨k + 1, by omega, by go_num, by rw [HE.out.1, bstr_append], HB5.out, by rw [HE.out.2]; exact HR5.out⟩
        case measure => simp [intOf]; omega
      · rename_i hh
        have hz9 : RvAt w9 wr.heap.size (0, 0, 0, 0) := RvAt.later (W := (wr.alloc (RvObj (0, 0, 0, 0))).drew) (heap_alloc_new wr _) hb9
        have ht4 : RvAt ((((w9.setCell ⟨wr.heap.size, 0, none⟩ (.int .i64 (x : Int))).setCell ⟨wr.heap.size, 1, none⟩ (.int .u64 (y : Int))).setCell ⟨wr.heap.size, 2, none⟩ (.int .i64 (z : Int))).setCell ⟨wr.heap.size, 3, none⟩ (.int .i64 (u : Int))) wr.heap.size (x, y, z, u) := rset4_at (s := (x, y, z, u)) hz9
        generalize (((w9.setCell ⟨wr.heap.size, 0, none⟩ (.int .i64 (x : Int))).setCell ⟨wr.heap.size, 1, none⟩ (.int .u64 (y : Int))).setCell ⟨wr.heap.size, 2, none⟩ (.int .i64 (z : Int))).setCell ⟨wr.heap.size, 3, none⟩ (.int .i64 (u : Int)) = w4 at hh ht4 ⊢
        have HB4 := Lib.hid hh.1.1
        have hst4 := hh.1.2
        have k0 := ht4.c0
        have k1 := ht4.c1
        have k2 := ht4.c2
        have k3 := ht4.c3
        simp only [] at k0 k1 k2 k3
        clear hh ht4 K K2 K3 K4 K5 HPZ hS0 Z HP hb9
        go_wp2_with (refine wpList_store_row rfl 69 _ _ rfl G #[.int .i64 (x : Int), .int .u64 (y : Int), .int .i64 (z : Int), .int .i64 (u : Int)] rfl rfl 69 _ hst4 info_rv rfl (by simp [Value.oneCell']) ?_; have HB5 := Lib.hid (below_setRow HB4.out hGw #[.int .i64 (x : Int), .int .u64 (y : Int), .int .i64 (z : Int), .int .i64 (u : Int)]); have HR5 : Hid (RvAt (w4.setRow G #[.int .i64 (x : Int), .int .u64 (y : Int), .int .i64 (z : Int), .int .i64 (u : Int)]) G (x, y, z, u)) := Lib.hid (setRow_heap _ _ _ _ _ _ hst4); clear hst4 k0 k1 k2 k3; generalize w4.setRow G #[.int .i64 (x : Int), .int .u64 (y : Int), .int .i64 (z : Int), .int .i64 (u : Int)] = w5 at HB5 HR5 ⊢)
        go_roundw
        case rel => exact ⟨k + 1, by omega, by go_num, by rw [HE.out.1, bstr_append], HB5.out, by rw [HE.out.2]; exact HR5.out⟩
        case measure => simp [intOf]; omega
    · obtain rfl : k = n := by omega
      rw [List.take_of_length_le (by omega)]
      have HO := Lib.hid ho
      have hbl := bitsV_len v0 l
      have HBY := Lib.hid (rbytes_any (bitsV v0 l) wr (by omega))
      obtain ⟨bs, hbs⟩ : ∃ bs, bitsV v0 l = bs := ⟨_, rfl⟩
      have HBS := Lib.hid hbs
      rw [hbs] at HBY ⊢
      clear ho hst hln hbl hbs
      go_wp2_with fail
      refine HBY.out.mono ?_
      rintro e w9 ⟨rfl, hb9⟩
      have HB9 := Lib.hid (later HO.out hb9)
      clear hb9
      go_wp2
      go_ret
      exact ⟨by rw [HBS.out]; rfl, HB9.out⟩
end Go.Proofs.YtdidengokijcjaaDoor.VaW
/-
  THE WALKS OF THE DOCUMENT's ANSWER FOR THE CHECK (alluviumref01), bit by bit.
-/
namespace Go.Proofs.YtdidengokijcjaaDoor.CrcW
open Go.RowKit CrcM
attribute [local go_sem] w_mod w_byte
/-- One turn, as the document has it. -/
theorem ref_odd (c : BitVec 32) (h : ((c.toNat : Int) % 2 == 1) = true) : bits .xor .u32 ((c.toNat : Int) / 2) 2197175160 = ((tstep c).toNat : Int) := by
  refine round_odd c ?_
  rw [and1]
  have h' : (c.toNat : Int) % 2 = 1 := by simpa using h
  have h0 : c.getLsbD 0 = true := by
    rw [BitVec.getLsbD, Nat.testBit_zero]
    simp; omega
  rw [h0]; rfl
theorem ref_even (c : BitVec 32) (h : ((c.toNat : Int) % 2 == 1) = false) : (c.toNat : Int) / 2 = ((tstep c).toNat : Int) := by
  refine round_even c ?_
  rw [and1]
  have h' : ¬ (c.toNat : Int) % 2 = 1 := by simpa using h
  have h0 : c.getLsbD 0 = false := by
    rw [BitVec.getLsbD, Nat.testBit_zero]
    simp; omega
  rw [h0]; rfl
set_option maxHeartbeats 400000 in
theorem run_any (c : BitVec 32) (s : ByteArray) (w : World) (hs : s.size ≤ maxLen) :
    Calls Tryd.prog 49 #[vu32 c, .string s] w fun e w' => e = .returned (vu32 (crun c s.data.toList)) ∧ w = w' := by
  unfold maxLen at hs
  go_enter Tryd.func49, Tryd.ntmps49
  go_wp2
  go_loop [0, 5, 6, 7] (fun v0 v5 _ _ => ∃ k : Nat, k ≤ s.size ∧ v5 = .int .i64 k ∧ v0 = vu32 (crun c (s.data.toList.take k))) (fun _ v5 _ _ => s.size - (intOf v5).toNat)
  case atStart => exact ⟨0, Nat.zero_le _, rfl, rfl⟩
  case round =>
    obtain ⟨k, hk, rfl, rfl⟩ := hrel
    by_cases hlt : k < s.size
    · generalize hd : crun c (s.data.toList.take k) = d
      have Hd := Lib.hid hd
      clear hd
      go_wp2
      go_loop [0, 6, 7] (fun v0 v6 _ => ∃ j : Nat, j ≤ 8 ∧ v6 = .int .i64 j ∧ v0 = vu32 (tsteps j (xb d s[k]))) (fun _ v6 _ => 8 - (intOf v6).toNat)
      case atStart => exact ⟨0, Nat.zero_le _, rfl, rfl⟩
      case round =>
        obtain ⟨j, hj, rfl, rfl⟩ := hrel
        by_cases hlj : j < 8
        · go_wp2
          all_goals
            go_round
            case rel => exact ⟨j + 1, by omega, by go_num, by first | exact congrArg _ (ref_odd _ (by assumption)) | exact congrArg _ (ref_even _ (by assumption))⟩
            case measure => simp [intOf]; omega
        · obtain rfl : j = 8 := by omega
          go_wp2
          go_round
          case rel =>
            refine ⟨k + 1, by omega, by go_num, congrArg (fun x : BitVec 32 => vu32 x) ?_⟩
            rw [take_snoc s k hlt, crun_snoc, Hd.out]; rfl
          case measure => simp [intOf]; omega
    · obtain rfl : k = s.size := by omega
      go_wp2
      go_ret
      refine ⟨?_, rfl⟩
      rw [List.take_of_length_le (by simp)]
      rfl
theorem sub_u32 (c : BitVec 32) : (4294967295 - (c.toNat : Int)) = ((nt c).toNat : Int) := by
  have := c.isLt
  simp [nt, BitVec.toNat_not]; omega
theorem w_sub (c : BitVec 32) : IntKind.u32.wrap (4294967295 - (c.toNat : Int)) = ((nt c).toNat : Int) := by
  rw [sub_u32, IntWalk.u32_in _ (by have := (nt c).isLt; omega)]
theorem all_u32 : (4294967295 : Int) = ((nt 0#32).toNat : Int) := by decide
set_option maxHeartbeats 400000 in
theorem rof_any (s : ByteArray) (w : World) (hs : s.size ≤ maxLen) :
    Calls Tryd.prog 35 #[.string s] w fun e w' => e = .returned (vu32 (cof s.data.toList)) ∧ w = w' := by
  have hr := run_any (nt 0#32) s w hs
  simp only [vu32, ← all_u32] at hr
  have Hr := Lib.hid hr
  clear hr
  go_enter Tryd.func35, Tryd.ntmps35
  go_wp2_with (go_at_call 49; refine Hr.out.mono ?_; rintro e w' ⟨rfl, rfl⟩)
  go_ret
  refine ⟨?_, rfl⟩
  rw [sub_u32]; rfl
theorem elem_u8 : Elem Tryd.prog 5 (.int .u8 0) 1 1 := by unfold Elem; kernel_rfl
theorem nth_byte (c : BitVec 32) (k : Nat) (hk : k < 4) : (cbytes c)[k]? = some (UInt8.ofNat (c.toNat / 256 ^ k % 256)) := by
  rcases (show k = 0 ∨ k = 1 ∨ k = 2 ∨ k = 3 by omega) with rfl | rfl | rfl | rfl <;> simp [cbytes]
set_option maxHeartbeats 400000 in
theorem rtail_any (s : ByteArray) (w : World) (hs : s.size ≤ maxLen) :
    Calls Tryd.prog 26 #[.string s] w fun e w' => e = .returned (.string ⟨(ctail s.data.toList).toArray⟩) ∧ Below w.heap.size w w' := by
  go_enter Tryd.func26, Tryd.ntmps26
  go_wp2_with (go_at_call 35; refine (rof_any s _ hs).mono ?_; rintro e w' ⟨rfl, rfl⟩)
  have Hc : Hid (ctail s.data.toList = cbytes (cof s.data.toList)) := rfl
  generalize cof s.data.toList = c at Hc ⊢
  go_loopw [3, 4, 5] (fun v3 v4 v5 wr => ∃ k : Nat, k ≤ 4 ∧ v5 = .int .i64 k ∧ v3 = .int .u32 ((c.toNat : Int) / 256 ^ k) ∧ wr.ownsRow w.heap.size 5 1 v4 k (byteCells ((cbytes c).take k)) ∧ Below w.heap.size w wr) (fun _ _ v5 _ => 4 - (intOf v5).toNat)
  case atStart => 
    refine ⟨0, by omega, rfl, by simp, World.ownsRow_nil _ _ _ _, Below.refl _ _⟩
  case round =>
    obtain ⟨k, hk, rfl, rfl, hown, hb⟩ := hrel
    by_cases hlt : k < 4
    · have h1 : 0 ≤ (c.toNat : Int) / 256 ^ k := Int.ediv_nonneg (by omega) (Int.pow_nonneg (by omega))
      have h2 : (c.toNat : Int) / 256 ^ k ≤ 4294967295 := by
        have := c.isLt
        have := Int.ediv_le_self (a := (c.toNat : Int)) (256 ^ k) (by omega)
        omega
      generalize hq : (c.toNat : Int) / 256 ^ k = q at h1 h2 ⊢
      have Hq := Lib.hid hq
      clear hq
      go_wp2_with (at_builtin; go_must (refine wpList_append_one rfl _ _ 46 rfl w.heap.size 5 (.int .u8 0) 1 1 Tryd.underlying46 elem_u8 rfl (by decide) wr hown rfl _ rfl rfl (one1 rfl) (by omega) (by omega) hb.size ?_); intro v' w' hown' hb' hz'; clear hown)
      go_roundw
      case rel =>
        refine ⟨k + 1, by omega, by go_num, ?_, ?_, hb.trans hb'⟩
        · rw [← Hq.out, Int.pow_succ, Int.ediv_ediv_of_nonneg (Int.pow_nonneg (by omega))]
        · have e : (cbytes c).take (k + 1) = (cbytes c).take k ++ [UInt8.ofNat (c.toNat / 256 ^ k % 256)] := by
            rw [List.take_add_one, nth_byte c k hlt]; rfl
          rw [e, byteCells_append]
          have e2 : byteCells [UInt8.ofNat (c.toNat / 256 ^ k % 256)] = [Value.int .u8 (q % 256)] := by
            rw [← Hq.out]; simp [byteCells]
          rw [e2]; exact hown'
      case measure => simp [intOf]; omega
    · obtain rfl : k = 4 := by omega
      have hconv := conv_owned (P := Tryd.prog) (src := 46) (dst := 9) Tryd.underlying46 Tryd.underlying5 Tryd.underlying9 hown
      clear hown
      go_wp2
      go_ret
      refine ⟨?_, hb⟩
      rw [Hc.out, List.take_of_length_le (by simp [cbytes])]
      rfl
end Go.Proofs.YtdidengokijcjaaDoor.CrcW
/-
  WHAT THE ROWS' CONDITION 'laid' GIVES THE WALKS: math/bits' table.
-/
namespace Go.Proofs.YtdidengokijcjaaDoor.BitsW
open Go.RowKit Go.Shelf BitsM
def lay1 {H : Type} : List (String × DataW H) := [("math/bits.deBruijn64tab", Rows.laid_math_bits_deBruijn64tab)]
theorem gTab : Tryd.prog.globalNamed "math/bits.deBruijn64tab" = some (Tryd.lays29_ren.g 1) := by kernel_rfl
theorem tTab : (Tryd.prog.globals[Tryd.lays29_ren.g 1]?).map (·.type) = some 146 := by kernel_rfl
theorem dTab : (Rows.laid_math_bits_deBruijn64tab : DataW Unit) = Lib.tabData .u8 (Lib.deBruijn64tab.map fun (x : Nat) => (x : Int)) := by kernel_rfl
theorem tab_of_laid {W : World} (h : laidMetH Tryd.prog lay1 W) : Tab W := by
  rw [MakeChecks.laidMetH_plain _ _ _ (by kernel_rfl)] at h
  obtain ⟨g, t, cs, fuel, p, hg, hty, hvar, hd⟩ := Lib.laidMet.reads h (.head _)
  obtain rfl := Option.some.inj (gTab.symm.trans hg)
  obtain rfl := Option.some.inj (tTab.symm.trans hty)
  rw [dTab] at hd
  have hcs := Lib.cells_of_tab Tryd.underlying146 Tryd.underlying5 (by kernel_rfl) (by kernel_rfl) hd
  intro j hj
  have hc := World.var?_cell hg hvar j
  rw [hc, ← Array.getElem?_toList, hcs]
  simp [hj]
end Go.Proofs.YtdidengokijcjaaDoor.BitsW
