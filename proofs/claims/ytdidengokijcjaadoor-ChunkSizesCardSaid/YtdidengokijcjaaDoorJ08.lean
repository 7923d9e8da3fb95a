/-
  (*bits.Writer).Put.
-/
import Derived.Test.YtdidengokijcjaaDoorJ07
import Derived.Shelf.Abstract
import Derived.Great.BuildSlice
/-
  (*bits.Writer).Put.
-/
namespace Go.Proofs.YtdidengokijcjaaDoor.BitsW
open Go.RowKit Go.Shelf BitsM
attribute [local go_sem] Oper.semAt_some wide_fn wide_depth wide_fn_in wide_depth_in
def putTmps (h bw : Nat) (v n N k : Int) (x7 x8 x18 x19 : Value) : Array Value := #[.pointer (some ⟨bw, 0, none⟩), .int .u64 v, .int .i64 n, .pointer (some ⟨h, 0, none⟩), .pointer (some ⟨h + 1, 0, none⟩), undef, .pointer (some ⟨h + 1 + 1, 0, none⟩), x7, x8, undef, .int .i64 n, .int .i64 N, .pointer (some ⟨bw, 0, none⟩), .pointer (some ⟨bw, 0, none⟩), .pointer (some ⟨bw, 1, none⟩), .int .i64 k, .int .i64 n, .func (.func 98) #[] #[.pointer (some ⟨h + 1 + 1 + 1 + 1, 0, none⟩), .pointer (some ⟨h + 1 + 1 + 1, 0, none⟩)], x18, x19, undef, undef, undef, undef, undef, undef, undef, undef, undef, undef, undef, undef, undef, undef, undef, undef, undef, undef, undef, undef, undef, undef, undef, undef, undef, undef, undef, undef, undef, undef, undef, undef, undef, undef, undef, undef, undef, undef, undef, undef, undef, undef, undef, undef, undef, undef, undef, undef, undef, undef]
theorem part_val (v : Int) (e t : Nat) (h0 : 0 ≤ v) (h1 : v < 18446744073709551616) (ht : t ≤ 8) :
    bits BinOp.and IntKind.u64 (v / 2 ^ e) (IntKind.u64.wrap (IntKind.u64.wrap (2 ^ t) - 1)) % 256 = ((v.toNat / 2 ^ e % 2 ^ t : Nat) : Int) := by
  obtain ⟨a, rfl⟩ := Int.eq_ofNat_of_zero_le h0
  have h2 : (2 : Nat) ^ t ≤ 2 ^ 8 := Nat.pow_le_pow_right (by omega) ht
  have h3 : 0 < (2 : Nat) ^ t := Nat.two_pow_pos t
  have e1 : ((2 : Int) ^ t) = ((2 ^ t : Nat) : Int) := by simp
  have e2 : ((2 : Int) ^ e) = ((2 ^ e : Nat) : Int) := by simp
  rw [e1, e2, IntWalk.u64_in ((2 ^ t : Nat) : Int) (by omega), IntWalk.u64_in (((2 ^ t : Nat) : Int) - 1) (by omega)]
  have e3 : ((2 ^ t : Nat) : Int) - 1 = ((2 ^ t - 1 : Nat) : Int) := by omega
  have e4 : ((a : Int) / ((2 ^ e : Nat) : Int)) = ((a / 2 ^ e : Nat) : Int) := by simp
  have h5 : a / 2 ^ e ≤ a := Nat.div_le_self _ _
  rw [e3, e4, u64_and_nat _ _ (by omega) (by omega), Nat.and_two_pow_sub_one_eq_mod]
  have h6 : a / 2 ^ e % 2 ^ t < 2 ^ t := Nat.mod_lt _ h3
  simp only [Int.toNat_natCast]
  omega
theorem or_val (x : UInt8) (p e : Nat) : bits BinOp.or IntKind.u8 (x.toNat : Int) ((p : Int) * 2 ^ e % 256) = ((x ||| UInt8.ofNat (p * 2 ^ e)).toNat : Int) := by
  have e1 : ((p : Int) * 2 ^ e % 256) = ((p * 2 ^ e % 256 : Nat) : Int) := by simp
  rw [e1, u8_or_nat _ _ x.toNat_lt (Nat.mod_lt _ (by decide)), UInt8.toNat_or]
  simp
set_option maxRecDepth 100000 in
set_option maxHeartbeats 1000000 in
theorem put_any (bw : Nat) (rb0 : Option Nat) (b0 : List Bool) (v n : Int) (w : World) (hw : WriterAt w bw rb0 b0) (hb : b0.length + 64 ≤ 1099511627776) (hv0 : 0 ≤ v) (hv1 : v < 18446744073709551616) :
    Calls Tryd.prog 83 #[.pointer (some ⟨bw, 0, none⟩), .int .u64 v, .int .i64 n] w fun e w' => e = .returned (.tuple #[]) ∧ Wrote w bw rb0 (b0 ++ msb v.toNat (within n)) w' := by
  obtain ⟨sv, hbw, hrb, hne, hrow⟩ := hw
  have hlt : bw < w.heap.size := (Array.getElem?_eq_some_iff.1 hbw).1
  have hc0 : w.cell? ⟨bw, 0, none⟩ = some sv := by rw [cell_of_row w _ _ _ _ _ hbw]; rfl
  have hc1 : w.cell? ⟨bw, 1, none⟩ = some (.int .i64 (b0.length : Int)) := by rw [cell_of_row w _ _ _ _ _ hbw]; rfl
  have Hbw := Lib.hid hbw
  have Hrow := Lib.hid hrow
  have hrb0 : ∀ g, rb0 = some g → g < w.heap.size := by
    intro g hg
    obtain ⟨_, ho⟩ := hrow
    rcases ho with ⟨hv, _⟩ | ⟨g', cap, cur, hv, _, hh, _⟩
    · rw [← hrb, hv] at hg; cases hg
    · rw [← hrb, hv] at hg; cases hg
      exact (Array.getElem?_eq_some_iff.1 hh).1
  have Hv := Lib.hid (And.intro hv0 hv1)
  clear hbw hrow hv0 hv1
  generalize hk : b0.length = k at *
  have HK := Lib.hid hk
  clear hk
  have n1 : bw < w.heap.size + 1 := by omega
  have n2 : bw < w.heap.size + 1 + 1 := by omega
  have n3 : bw < w.heap.size + 1 + 1 + 1 := by omega
  refine (callsIn_wide (n := 3)).1 ?_
  refine callsIn_of_wp_marks Tryd.func83 rfl trivial ?_ rfl
  simp only [Tryd.ntmps83, List.size_toArray, List.length_cons, List.length_nil, Nat.reduceAdd, Nat.reduceSub, Array.replicate_succ, Array.replicate_zero, List.push_toArray, List.append_toArray, List.nil_append, List.cons_append]
  gi_wp2_with (first | (gi_at_call 94; refine (callsIn_wide.2 (within_any _ _)).mono ?_; rintro e w' ⟨rfl, rfl⟩) | (gi_at_call 95; refine (callsIn_wide.2 (pieces_any _ _ _)).mono ?_; rintro e w' ⟨rfl, rfl⟩))
  obtain ⟨h, hh⟩ : ∃ h, w.heap.size = h := ⟨_, rfl⟩
  rw [hh]
  have hboth : ∃ w5 : World, (((((w.alloc (.cells #[.pointer (some ⟨bw, 0, none⟩)] 102)).alloc (.cells #[.int .u64 v] 35)).alloc (.cells #[.int .i64 (within n : Nat)] 3)).alloc (.cells #[.int .i64 (k : Int)] 3)).alloc (.cells #[.int .i64 n] 3)) = w5 ∧ w5.heap.size = h + 5 ∧
      w5.heap[h]? = some (.cells #[.pointer (some ⟨bw, 0, none⟩)] 102 (0, 0)) ∧ w5.heap[h + 1]? = some (.cells #[.int .u64 v] 35 (0, 0)) ∧ w5.heap[h + 1 + 1]? = some (.cells #[.int .i64 (within n : Nat)] 3 (0, 0)) ∧
      w5.heap[h + 1 + 1 + 1]? = some (.cells #[.int .i64 (k : Int)] 3 (0, 0)) ∧ w5.heap[h + 1 + 1 + 1 + 1]? = some (.cells #[.int .i64 n] 3 (0, 0)) ∧ (∀ i, i < h → w5.heap[i]? = w.heap[i]?) ∧ w5.os = w.os ∧ w5.tape = w.tape ∧ w5.output = w.output := by
    refine ⟨_, rfl, by simp [hh], ?_, ?_, ?_, ?_, ?_, ?_, rfl, rfl, rfl⟩
    · rw [heap_past _ _ (by simp; omega), heap_past _ _ (by simp; omega), heap_past _ _ (by simp; omega), heap_past _ _ (by simp; omega), heap_at _ _ (by omega)]
    · rw [heap_past _ _ (by simp; omega), heap_past _ _ (by simp; omega), heap_past _ _ (by simp; omega), heap_at _ _ (by simp; omega)]
    · rw [heap_past _ _ (by simp; omega), heap_past _ _ (by simp; omega), heap_at _ _ (by simp; omega)]
    · rw [heap_past _ _ (by simp; omega), heap_at _ _ (by simp; omega)]
    · rw [heap_at _ _ (by simp; omega)]
    · intro i hi
      rw [heap_past _ _ (by simp; omega), heap_past _ _ (by simp; omega), heap_past _ _ (by simp; omega), heap_past _ _ (by simp; omega), heap_past _ _ (by omega)]
  obtain ⟨w5, hw5, z5, g0, g1, g2, g3, g4, gold, gos, gtape, gout⟩ := hboth
  rw [hw5]
  rw [hh] at n1 n2 n3 hlt hrb0
  clear hw5
  refine wpIn_rangeFunc_st (σ := Nat × Nat) (gf := 98) (lb := #[.pointer (some ⟨h + 1 + 1 + 1 + 1, 0, none⟩), .pointer (some ⟨h + 1 + 1 + 1, 0, none⟩)]) rfl (enters_of Tryd.func98 (by kernel_rfl) rfl)
    (pieces_iter (h + 1 + 1 + 1) (h + 1 + 1 + 1 + 1) k n (by omega)) (fun _ => rfl) (fun W => KeepsNon.setCell _ _ _ _) (fun s W => (KeepsNon.setCell _ _ _ _).trans (KeepsNon.setCell _ _ _ _))
    (fun s W => ∃ b : List Bool, b.length = s.1 ∧ b ++ msb v.toNat s.2 = b0 ++ msb v.toNat (within n) ∧ PutMem h bw v rb0 w W s.1 s.2 s.2 b)
    (fun s W => ∃ b : List Bool, b.length = (pcNext s).1 ∧ b ++ msb v.toNat (pcNext s).2 = b0 ++ msb v.toNat (within n) ∧ PutMem h bw v rb0 w W s.1 s.2 (pcNext s).2 b)
    ?own ?own' ?step ?hI ?hI' ?begins ?start (fun s => { tmps := putTmps h bw v n (within n : Nat) k (.int .i64 ((s.1 % 8 : Nat) : Int)) (.int .i64 ((take s : Nat) : Int)) (.int .i64 ((s.1 % 8 : Nat) : Int)) (.int .i64 ((take s : Nat) : Int)), defers := [] }) ?assign ?body ?done
  case own => rintro s W ⟨b, -, -, hp⟩; exact hp.own
  case own' => rintro s W ⟨b, -, -, hp⟩; exact hp.own
  case step => rintro s W hm ⟨b, h1, h2, hp⟩; exact ⟨b, h1, h2, hp.stepped hlt hrb0⟩
  case hI =>
    rintro s W l o o' ⟨b, h1, h2, hp⟩ hlo hl ho
    exact ⟨b, h1, h2, hp.putObj o' hl (by omega) ho⟩
  case hI' =>
    rintro s W l o o' ⟨b, h1, h2, hp⟩ hlo hl ho
    exact ⟨b, h1, h2, hp.putObj o' hl (by omega) ho⟩
  case begins =>
    intro o1 o2
    have e : ((w5.alloc o1).alloc o2).heap[h + 1 + 1 + 1 + 1]? = some (.cells #[.int .i64 n] 3 (0, 0)) := by
      rw [Below.heap_alloc _ _ _ (by simp; omega), Below.heap_alloc _ _ _ (by omega)]; exact g4
    exact ⟨by rw [cell_of_row _ _ _ _ _ _ e]; rfl, frozen_of_row _ _ _ _ _ e⟩
  case start =>
    intro o1 o2 h1 h2
    have ea : ∀ i, i < h + 5 → ((w5.alloc o1).alloc o2).heap[i]? = w5.heap[i]? := fun i hi => by
      rw [Below.heap_alloc _ _ _ (by simp; omega), Below.heap_alloc _ _ _ (by omega)]
    have ez : ((w5.alloc o1).alloc o2).heap.size = h + 7 := by simp; omega
    have es : ((w5.alloc o1).alloc o2).os = w.os ∧ ((w5.alloc o1).alloc o2).tape = w.tape ∧ ((w5.alloc o1).alloc o2).output = w.output := ⟨gos, gtape, gout⟩
    generalize (w5.alloc o1).alloc o2 = w7 at ea ez es
    have eo : ∀ i, i ≠ h + 1 + 1 + 1 + 1 → (pcBegun (h + 1 + 1 + 1 + 1) n w7).heap[i]? = w7.heap[i]? := fun i hi => heap_setCell_other _ _ _ _ hi
    have eb : ∀ i, i < h → (pcBegun (h + 1 + 1 + 1 + 1) n w7).heap[i]? = w.heap[i]? := fun i hi => by rw [eo i (by omega), ea i (by omega), gold i hi]
    refine ⟨b0, HK.out, rfl, ?_, ?_, ?_, ?_, ?_, ?_, within_le n, ⟨rb0, ?_, .inl rfl⟩, ?_, es.1, es.2.1, es.2.2, fun i hi _ _ => eb i hi⟩
    · rw [eo _ (by omega), ea _ (by omega), g0]
    · rw [eo _ (by omega), ea _ (by omega), g1]
    · rw [eo _ (by omega), ea _ (by omega), g2]
    · rw [eo _ (by omega), ea _ (by omega), g3]
    · exact heap_setCell_same w7 _ 0 _ _ _ ((ea _ (by omega)).trans g4)
    · have := within_le n; simp only []; omega
    · have hw0 : WriterAt w bw rb0 b0 := ⟨sv, by rw [HK.out]; exact Hbw.out, hrb, hne, Hrow.out⟩
      exact hw0.of_blocks (fun cs t fr hx => (eb _ hlt).trans hx) (fun g hg cs t fr hx => (eb _ (hrb0 g hg)).trans hx)
    · have : (pcBegun (h + 1 + 1 + 1 + 1) n w7).heap.size = w7.heap.size := by simp [pcBegun, World.setCell]
      omega
  case assign =>
    intro l m s W K hK
    unfold pcEncs
    unfold putTmps at hK
    gi_wp2
    exact hK
  case body =>
    rintro l mm ⟨f, m⟩ W hm ⟨b, h1, h2, hp⟩
    have hpos : 0 < m := hm
    have hp0 : PutMem h bw v rb0 w W f m m b := hp
    have hf : b.length = f := h1
    obtain ⟨sv2, hmid0⟩ := hp0.mid hf
    have ht0 : 0 < take (f, m) := by unfold take; simp only []; omega
    have ht1 : take (f, m) ≤ m := by unfold take; simp only []; omega
    have ht2 : f % 8 + take (f, m) ≤ 8 := by unfold take; simp only []; omega
    have hnext : pcNext (f, m) = (f + take (f, m), m - take (f, m)) := rfl
    have hlen := hmid0.bound
    have hm64 := hmid0.m64
    generalize htk : take (f, m) = t at *
    unfold putTmps
    have hpiece : b ++ msb (v.toNat / 2 ^ (m - t) % 2 ^ t) t ++ msb v.toNat (m - t) = b0 ++ msb v.toNat (within n) := by rw [← h2, List.append_assoc, ← msb_piece _ _ _ ht1]
    have hpl : (msb (v.toNat / 2 ^ (m - t) % 2 ^ t) t).length = t := msb_length _ _
    have hpn : numB (msb (v.toNat / 2 ^ (m - t) % 2 ^ t) t) = v.toNat / 2 ^ (m - t) % 2 ^ t := by rw [numB_msb, Nat.mod_mod]
    generalize hpc : msb (v.toNat / 2 ^ (m - t) % 2 ^ t) t = pc at *
    have HN := Lib.hid hnext
    have HPC := Lib.hid hpiece
    have HPN := Lib.hid hpn
    have HPL := Lib.hid hpl
    have hgoal : ∀ (W3 : World) (g cap : Nat) (x : UInt8) (F : List UInt8) (nq : Nat), MidMem h bw v rb0 w W3 f m (m - t) (.slice (some ⟨g, 0, none⟩) (F.length + 1) cap) (F ++ [x]) → pack (b ++ pc) = F ++ [x ||| UInt8.ofNat (numB pc * 2 ^ (8 - f % 8 - t))] → KeepsNon w5.heap.size W W3 →
        KeepsNon w5.heap.size W (((W3.drewN nq).setCell ⟨g, F.length, none⟩ (.int .u8 ((x ||| UInt8.ofNat (numB pc * 2 ^ (8 - f % 8 - t))).toNat : Int))).setCell ⟨bw, 1, none⟩ (.int .i64 ((f : Int) + (t : Int)))) ∧
        ∃ b' : List Bool, b'.length = (pcNext (f, m)).1 ∧ b' ++ msb v.toNat (pcNext (f, m)).2 = b0 ++ msb v.toNat (within n) ∧
          PutMem h bw v rb0 w (((W3.drewN nq).setCell ⟨g, F.length, none⟩ (.int .u8 ((x ||| UInt8.ofNat (numB pc * 2 ^ (8 - f % 8 - t))).toNat : Int))).setCell ⟨bw, 1, none⟩ (.int .i64 ((f : Int) + (t : Int)))) f m (pcNext (f, m)).2 b' := by
      intro W3 g cap x F nq hmid hpk hkeep
      rw [HN.out]
      refine ⟨hkeep.trans (((KeepsNon.drewN _ _ _).trans (KeepsNon.setCell _ _ _ _)).trans (KeepsNon.setCell _ _ _ _)), b ++ pc, by rw [List.length_append, HPL.out, hf], HPC.out, ?_⟩
      exact (hmid.drewN nq).close hlt hrb0 hpk (by rw [List.length_append, HPL.out, hf])
    have HG := Lib.hid hgoal
    have C0 : W.cell? ⟨h, 0, none⟩ = some (.pointer (some ⟨bw, 0, none⟩)) := by rw [cell_of_row W _ _ _ _ _ hmid0.c0]; rfl
    have C2 : W.cell? ⟨h + 1 + 1, 0, none⟩ = some (.int .i64 (m : Int)) := by rw [cell_of_row W _ _ _ _ _ hmid0.c2]; rfl
    have F2 : W.frozen? ⟨h + 1 + 1, 0, none⟩ = false := frozen_of_row W _ _ _ _ hmid0.c2
    have B0 : W.cell? ⟨bw, 0, none⟩ = some sv2 := by rw [cell_of_row W _ _ _ _ _ hmid0.bwc]; rfl
    have HM := Lib.hid hmid0
    have Hf := Lib.hid hf
    clear hgoal hpiece hpn hpl hnext htk hpc hc0 hc1 g0 g1 g2 g3 g4 gold h1 h2 hp hp0 hmid0 hf hm
    by_cases hat : f % 8 = 0
    · have hatb : ((f : Int) % 8 == 0) = true := by simp; omega
      have hati : (f : Int) % 8 = 0 := by omega
      gi_wp2_with fail
      refine wpIn_round_till (fun W' => W'.cell? ⟨h, 0, none⟩ = some (.pointer (some ⟨bw, 0, none⟩)) ∧ W'.cell? ⟨bw, 0, none⟩ = some sv2) 9 (by kernel_rfl) (by kernel_rfl) ?_
      refine till_take 0 (.pointer (some ⟨bw, 0, none⟩)) rfl (by kernel_rfl) (by kernel_rfl) (by kernel_rfl) (by decide) (by kernel_rfl) rfl (by rintro w' ⟨s0, s1⟩; go_simp) ⟨C0, B0⟩ ?_
      refine till_take 1 (.pointer (some ⟨bw, 0, none⟩)) rfl (by kernel_rfl) (by kernel_rfl) (by kernel_rfl) (by decide) (by kernel_rfl) rfl (by rintro w' ⟨s0, s1⟩; go_simp) ⟨C0, B0⟩ ?_
      refine till_take 2 (.pointer (some ⟨bw, 0, none⟩)) rfl (by kernel_rfl) (by kernel_rfl) (by kernel_rfl) (by decide) (by kernel_rfl) rfl (by rintro w' ⟨s0, s1⟩; go_simp) ⟨C0, B0⟩ ?_
      refine till_take 3 (.pointer (some ⟨bw, 0, none⟩)) rfl (by kernel_rfl) (by kernel_rfl) (by kernel_rfl) (by decide) (by kernel_rfl) rfl (by rintro w' ⟨s0, s1⟩; go_simp) ⟨C0, B0⟩ ?_
      refine till_take 4 sv2 rfl (by kernel_rfl) (by kernel_rfl) (by kernel_rfl) (by decide) (by kernel_rfl) rfl (by rintro w' ⟨s0, s1⟩; go_simp) ⟨C0, B0⟩ ?_
      obtain ⟨v3, W2, hrun, A0, A1, A2, ⟨g, cap, rfl⟩, hm1, hk1⟩ := HM.out.grow hlt hrb0 (by rw [pack_length, Hf.out]; omega) w5.heap.size 46
      obtain ⟨i0, hi0, hz0, hz1, -⟩ := info_parts (show Elem Tryd.prog 5 (.int .u8 0) 1 1 by unfold Elem; kernel_rfl)
      refine till_val 5 (.slice (some ⟨W.heap.size, 0, none⟩) 1 1) (W.drew.alloc (.cells #[.int .u8 0] 5 (0, 0))) rfl (by kernel_rfl) rfl ?b5 (fun _ => ⟨?_, ?_⟩) ?_
      case b5 =>
        unfold execOp
        have e := run_buildSlice (P := Tryd.prog) W.drew 46 5 1 #[(0, .int .u8 0)] #[.int .u8 0] i0 (.int .u8 0) (by kernel_rfl) hi0 hz0 (by rw [hz1]; decide) (by rw [hz1]; decide) (by rw [hz1]; kernel_rfl)
        go_simp
      · exact (World.cell?_of_block (Below.heap_alloc _ _ _ (Array.getElem?_eq_some_iff.1 HM.out.c0).1)).trans C0
      · exact (World.cell?_of_block (Below.heap_alloc _ _ _ (Array.getElem?_eq_some_iff.1 HM.out.bwc).1)).trans B0
      refine till_val 6 (.slice (some ⟨g, 0, none⟩) ((pack b).length + 1) cap) W2 rfl (by kernel_rfl) rfl ?b6 (fun _ => ⟨A2, A0⟩) ?_
      case b6 => exact run_append_op rfl rfl rfl hrun
      refine till_val 7 (.pointer (some ⟨bw, 0, none⟩)) W2 rfl (by kernel_rfl) rfl (by go_simp) (fun _ => ⟨A2, A0⟩) ?_
      refine till_take 8 (.pointer (some ⟨bw, 0, none⟩)) rfl (by kernel_rfl) (by kernel_rfl) (by kernel_rfl) (by decide) (by kernel_rfl) rfl (by rintro w' ⟨s0, s1⟩; go_simp) ⟨A2, A0⟩ ?_
      refine till_skip 9 (W2.setCell ⟨bw, 0, none⟩ (.slice (some ⟨g, 0, none⟩) ((pack b).length + 1) cap)) rfl (by kernel_rfl) rfl ?b9 (fun h => absurd rfl h) ?_
      case b9 =>
        go_simp
      refine till_done (by kernel_rfl) ?_
      have hp2 : pack (b ++ pc) = pack b ++ [(0 : UInt8) ||| UInt8.ofNat (numB pc * 2 ^ (8 - f % 8 - t))] := by
        have e := pack_new b pc (by rw [Hf.out]; exact hat) (by rw [HPL.out]; exact ht0) (by rw [HPL.out]; omega)
        rw [e, hat, byteB, HPL.out, Nat.sub_zero, UInt8.zero_or]
      have hm2 := hm1.lower hlt hrb0 (m - t) ((m : Int) - (t : Int)) (by omega)
      have HM2 := Lib.hid hm2
      have HP2 := Lib.hid hp2
      have HK2 := Lib.hid (hk1.trans (KeepsNon.setCell w5.heap.size _ ⟨h + 1 + 1, 0, none⟩ (.int .i64 ((m : Int) - (t : Int)))))
      have C2' : (W2.setCell ⟨bw, 0, none⟩ (.slice (some ⟨g, 0, none⟩) ((pack b).length + 1) cap)).cell? ⟨h + 1 + 1, 0, none⟩ = some (.int .i64 (m : Int)) := by rw [cell_of_row _ _ _ _ _ _ hm1.c2]; rfl
      have F2' : (W2.setCell ⟨bw, 0, none⟩ (.slice (some ⟨g, 0, none⟩) ((pack b).length + 1) cap)).frozen? ⟨h + 1 + 1, 0, none⟩ = false := frozen_of_row _ _ _ _ _ hm1.c2
      clear hm2 hp2 hm1 hk1 hrun A0 A1 A2 C0 C2 F2 B0 hi0 hz0 hz1
      generalize hql : (pack b).length = q at *
      generalize W2.setCell ⟨bw, 0, none⟩ (.slice (some ⟨g, 0, none⟩) (q + 1) cap) = W4 at *
      gi_wp2
      generalize W4.setCell ⟨h + 1 + 1, 0, none⟩ (.int .i64 ((m : Int) - (t : Int))) = W3 at *
      clear C2' F2'
      have hp := HM2.out
      have D0 : W3.cell? ⟨h, 0, none⟩ = some (.pointer (some ⟨bw, 0, none⟩)) := by rw [cell_of_row W3 _ _ _ _ _ hp.c0]; rfl
      have D1 : W3.cell? ⟨h + 1, 0, none⟩ = some (.int .u64 v) := by rw [cell_of_row W3 _ _ _ _ _ hp.c1]; rfl
      have D2 : W3.cell? ⟨h + 1 + 1, 0, none⟩ = some (.int .i64 ((m - t : Nat) : Int)) := by rw [cell_of_row W3 _ _ _ _ _ hp.c2]; rfl
      rw [show ((m - t : Nat) : Int) = (m : Int) - (t : Int) by omega] at D2
      have E0 : W3.cell? ⟨bw, 0, none⟩ = some (.slice (some ⟨g, 0, none⟩) (q + 1) cap) := by rw [cell_of_row W3 _ _ _ _ _ hp.bwc]; rfl
      have E1 : W3.cell? ⟨bw, 1, none⟩ = some (.int .i64 (f : Int)) := by rw [cell_of_row W3 _ _ _ _ _ hp.bwc]; rfl
      have E2 : W3.frozen? ⟨bw, 1, none⟩ = false := frozen_of_row W3 _ _ _ _ hp.bwc
      obtain ⟨g', cap', hv', -, -, hcells, hfro⟩ := ownsRow_cell hp.row (by simp [byteCells])
      obtain rfl : g = g' := by injection hv' with a1 a2 a3; injection a1 with a4; injection a4
      have X0 : W3.cell? ⟨g, q, none⟩ = some (.int .u8 0) := hcells _ _ (by subst hql; simp [byteCells])
      have X1 : W3.frozen? ⟨g, q, none⟩ = false := hfro _
      have gn1 : bw ≠ g := fun e => hp.ne (by rw [e]; rfl)
      have gn2 : h ≠ g := by
        intro e
        rcases hp.rb with h1 | ⟨g2, h1, h2⟩
        · have := hrb0 g h1.symm; omega
        · have h3 : g = g2 := by simpa [Value.ownBlock] using h1
          omega
      have hq : q ≤ 1099511627776 := by
        have h1 := congrArg List.length HP2.out
        rw [pack_length, List.length_append, List.length_append, Hf.out, HPL.out, List.length_singleton, hql] at h1
        omega
      clear hp hv' hcells hfro
      have HQ := Lib.hid hql
      clear hql
      have q0 : (0 : Int) ≤ (m : Int) - (t : Int) := by omega
      have q1 : (m : Int) - (t : Int) ≤ 63 := by omega
      have q2 : (0 : Int) ≤ (t : Int) := by omega
      have q3 : (t : Int) ≤ 8 := by omega
      refine wpIn_round_quiet' (by kernel_rfl) (by kernel_rfl) (by kernel_rfl) ?_
      repeat (go_big_quiet_step (fail))
      refine wpQuiet_nil ?_
      intro _ hw'
      obtain ⟨nq, hw''⟩ := hw'
      subst hw''
      rw [part_val v (m - t) t Hv.out.1 Hv.out.2 (by omega), ← HPN.out]
      gi_wp2
      have q4 : (0 : Int) ≤ 8 - (t : Int) := by omega
      have q5 : 8 - (t : Int) ≤ 7 := by omega
      have w8 : IntKind.i64.wrap 8 = 8 := IntWalk.i64_in _ (by omega)
      have wq : IntKind.i64.wrap (q : Int) = (q : Int) := IntWalk.i64_in _ (by omega)
      have wq2 : (q : Int) < (q : Int) + 1 := by omega
      have wq3 : (0 : Int) ≤ (q : Int) := by omega
      have w9 : IntKind.i64.wrap (8 - (t : Int)) = 8 - (t : Int) := IntWalk.i64_in _ (by omega)
      refine wpIn_round_still_tail' 20 (by kernel_rfl) (by kernel_rfl) (by kernel_rfl) ?_
      simp only [List.take_succ_cons, List.take_zero, List.drop_succ_cons, List.drop_zero]
      repeat still_step
      refine wpStill_nil ?_
      go_wp2
      refine Nrm.normal ?_
      have e := HG.out W3 g cap 0 (pack b) (nq + 1) (by rw [HQ.out]; exact HM2.out) HP2.out HK2.out
      rw [HQ.out] at e
      have HE := Lib.hid e
      clear e
      gi_wp2
      rw [show bits BinOp.or IntKind.u8 0 (((numB pc : Nat) : Int) * 2 ^ (8 - t) % 256) = (((0 : UInt8) ||| UInt8.ofNat (numB pc * 2 ^ (8 - f % 8 - t))).toNat : Int) from by rw [hat, Nat.sub_zero]; exact or_val 0 _ _]
      exact HE.out
    · have hat' : ((f % 8 : Nat) : Int) ≠ 0 := by omega
      have hatb : (((f % 8 : Nat) : Int) == 0) = false := by simp; omega
      obtain ⟨F, x, hp1, hp2⟩ := pack_more b pc (by rw [Hf.out]; exact hat) (by rw [Hf.out, HPL.out]; exact ht2)
      rw [Hf.out, HPL.out] at hp2
      have hm2 := HM.out.lower hlt hrb0 (m - t) ((m : Int) - (t : Int)) (by omega)
      rw [hp1] at hm2
      have hform : ∃ g cap, sv2 = .slice (some ⟨g, 0, none⟩) (F.length + 1) cap := by
        obtain ⟨g, cap, hv, _⟩ := ownsRow_cell HM.out.row (by rw [hp1]; simp [byteCells])
        rw [hp1] at hv
        exact ⟨g, cap, by rw [hv]; simp⟩
      obtain ⟨g, cap, rfl⟩ := hform
      have HM2 := Lib.hid hm2
      have HP2 := Lib.hid hp2
      have HK2 := Lib.hid (KeepsNon.setCell w5.heap.size W ⟨h + 1 + 1, 0, none⟩ (.int .i64 ((m : Int) - (t : Int))))
      clear hm2 hp2 hp1 B0
      gi_wp2
      generalize W.setCell ⟨h + 1 + 1, 0, none⟩ (.int .i64 ((m : Int) - (t : Int))) = W3 at *
      clear C0 C2 F2
      have hp := HM2.out
      have D0 : W3.cell? ⟨h, 0, none⟩ = some (.pointer (some ⟨bw, 0, none⟩)) := by rw [cell_of_row W3 _ _ _ _ _ hp.c0]; rfl
      have D1 : W3.cell? ⟨h + 1, 0, none⟩ = some (.int .u64 v) := by rw [cell_of_row W3 _ _ _ _ _ hp.c1]; rfl
      have D2 : W3.cell? ⟨h + 1 + 1, 0, none⟩ = some (.int .i64 ((m - t : Nat) : Int)) := by rw [cell_of_row W3 _ _ _ _ _ hp.c2]; rfl
      rw [show ((m - t : Nat) : Int) = (m : Int) - (t : Int) by omega] at D2
      have E0 : W3.cell? ⟨bw, 0, none⟩ = some (.slice (some ⟨g, 0, none⟩) (F.length + 1) cap) := by rw [cell_of_row W3 _ _ _ _ _ hp.bwc]; rfl
      have E1 : W3.cell? ⟨bw, 1, none⟩ = some (.int .i64 (f : Int)) := by rw [cell_of_row W3 _ _ _ _ _ hp.bwc]; rfl
      have E2 : W3.frozen? ⟨bw, 1, none⟩ = false := frozen_of_row W3 _ _ _ _ hp.bwc
      obtain ⟨g', cap', hv', -, -, hcells, hfro⟩ := ownsRow_cell hp.row (by simp [byteCells])
      obtain rfl : g = g' := by injection hv' with a1 a2 a3; injection a1 with a4; injection a4
      have X0 : W3.cell? ⟨g, F.length, none⟩ = some (.int .u8 (x.toNat : Int)) := hcells _ _ (by simp [byteCells])
      have X1 : W3.frozen? ⟨g, F.length, none⟩ = false := hfro _
      have gn1 : bw ≠ g := fun e => hp.ne (by rw [e]; rfl)
      have gn2 : h ≠ g := by
        intro e
        rcases hp.rb with h1 | ⟨g2, h1, h2⟩
        · have := hrb0 g h1.symm; omega
        · have h3 : g = g2 := by simpa [Value.ownBlock] using h1
          omega
      have hq : F.length ≤ 1099511627776 := by
        have h1 := congrArg List.length HP2.out
        rw [pack_length, List.length_append, List.length_append, Hf.out, HPL.out, List.length_singleton] at h1
        omega
      clear hp hv' hcells hfro
      generalize hql : F.length = q at *
      have HQ := Lib.hid hql
      clear hql
      have q0 : (0 : Int) ≤ (m : Int) - (t : Int) := by omega
      have q1 : (m : Int) - (t : Int) ≤ 63 := by omega
      have q2 : (0 : Int) ≤ (t : Int) := by omega
      have q3 : (t : Int) ≤ 8 := by omega
      refine wpIn_round_quiet' (by kernel_rfl) (by kernel_rfl) (by kernel_rfl) ?_
      repeat (go_big_quiet_step (fail))
      refine wpQuiet_nil ?_
      intro _ hw'
      obtain ⟨nq, hw''⟩ := hw'
      subst hw''
      rw [part_val v (m - t) t Hv.out.1 Hv.out.2 (by omega), ← HPN.out]
      gi_wp2
      have q4 : (0 : Int) ≤ 8 - (f : Int) % 8 - (t : Int) := by omega
      have q5 : 8 - (f : Int) % 8 - (t : Int) ≤ 7 := by omega
      have wq : IntKind.i64.wrap (q : Int) = (q : Int) := IntWalk.i64_in _ (by omega)
      have wq2 : (q : Int) < (q : Int) + 1 := by omega
      have wq3 : (0 : Int) ≤ (q : Int) := by omega
      have w8 : IntKind.i64.wrap (8 - (f : Int) % 8) = 8 - (f : Int) % 8 := IntWalk.i64_in _ (by omega)
      have w9 : IntKind.i64.wrap (8 - (f : Int) % 8 - (t : Int)) = 8 - (f : Int) % 8 - (t : Int) := IntWalk.i64_in _ (by omega)
      refine wpIn_round_still_tail' 20 (by kernel_rfl) (by kernel_rfl) (by kernel_rfl) ?_
      simp only [List.take_succ_cons, List.take_zero, List.drop_succ_cons, List.drop_zero]
      repeat still_step
      refine wpStill_nil ?_
      go_wp2
      refine Nrm.normal ?_
      have e := HG.out W3 g cap x F (nq + 1) (by rw [HQ.out]; exact HM2.out) HP2.out HK2.out
      rw [HQ.out] at e
      have HE := Lib.hid e
      clear e
      gi_wp2
      rw [or_val]
      exact HE.out
  case done =>
    rintro D ⟨f, m⟩ W hD hm ⟨b, h1, h2, hp⟩ hK
    obtain rfl : m = 0 := by unfold pcMore at hm; omega
    have hp2 := hp.putObj (.deferred none) hK (by omega) rfl
    have hb : b = b0 ++ msb v.toNat (within n) := by simpa [msb] using h2
    have hfin : Wrote w bw rb0 (b0 ++ msb v.toNat (within n)) (W.putObj D (.deferred none)) := by
      obtain ⟨rb, hwr, hrb⟩ := hp2.wr
      refine ⟨⟨rb, hb ▸ hwr, ?_⟩, by have := hp2.size; omega, hp2.os, hp2.tape, hp2.output, fun i hi => hp2.old i (by omega)⟩
      rcases hrb with hrb | ⟨g, hg, hle⟩
      · exact .inl hrb
      · exact .inr ⟨g, hg, by omega⟩
    have HF := Lib.hid hfin
    clear hfin hp hp2 h2
    gi_wp2
    refine ⟨by simp, .inl ⟨_, _, rfl, run_takeDeferred hK, ?_⟩⟩
    exact ⟨_, results_none rfl _ _ _, rfl, HF.out⟩
end Go.Proofs.YtdidengokijcjaaDoor.BitsW
