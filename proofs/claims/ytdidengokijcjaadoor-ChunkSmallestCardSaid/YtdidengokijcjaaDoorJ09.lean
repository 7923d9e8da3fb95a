/-
  (*bits.Reader).Left AND (*bits.Reader).Get.
  THE SMALL FUNCTIONS OF bits: NewWriter, Len, Bytes, NewReader, Clean.
  THE WALKS OF THE DOCUMENT's ANSWER FOR BITS (alluviumref02).
-/
import Derived.Test.YtdidengokijcjaaDoorJ07
import Derived.Test.YtdidengokijcjaaDoorJ01
import Derived.Shelf.Abstract
/-
  (*bits.Reader).Left AND (*bits.Reader).Get.
-/
namespace Go.Proofs.YtdidengokijcjaaDoor.BitsW
open Go.RowKit Go.Shelf BitsM
attribute [local go_sem] Oper.semAt_some wide_fn wide_depth wide_fn_in wide_depth_in
/-- A reader in block br: of the bytes s, at the bit p. -/
def ReaderAt (W : World) (br : Nat) (s : ByteArray) (p : Nat) : Prop := W.heap[br]? = some (.cells #[.string s, .int .i64 (p : Int)] 135 (0, 0))
theorem ReaderAt.f0 {W : World} {br : Nat} {s : ByteArray} {p : Nat} (h : ReaderAt W br s p) : W.cell? ⟨br, 0, none⟩ = some (.string s) := by rw [cell_of_row W _ _ _ _ _ h]; rfl
theorem ReaderAt.f1 {W : World} {br : Nat} {s : ByteArray} {p : Nat} (h : ReaderAt W br s p) : W.cell? ⟨br, 1, none⟩ = some (.int .i64 (p : Int)) := by rw [cell_of_row W _ _ _ _ _ h]; rfl
theorem left_any (br : Nat) (s : ByteArray) (p : Nat) (w : World) (hr : ReaderAt w br s p) (hs : s.size ≤ 137438953472) (hp : p ≤ 8 * s.size) :
    Calls Tryd.prog 91 #[.pointer (some ⟨br, 0, none⟩)] w fun e w' => e = .returned (.int .i64 ((8 * s.size - p : Nat) : Int)) ∧ ∃ n, w.drewN n = w' := by
  have h0 := hr.f0
  have h1 := hr.f1
  clear hr
  have q1 : IntKind.i64.wrap (s.size : Int) = (s.size : Int) := IntWalk.i64_in _ (by omega)
  have q2 : IntKind.i64.wrap ((s.size : Int) * 8) = (s.size : Int) * 8 := IntWalk.i64_in _ (by omega)
  have q3 : IntKind.i64.wrap ((s.size : Int) * 8 - (p : Int)) = (s.size : Int) * 8 - (p : Int) := IntWalk.i64_in _ (by omega)
  go_enter Tryd.func91, Tryd.ntmps91
  go_wp2_with fail
  go_quiet (fail)
  go_wp2
  go_ret
  refine ⟨?_, _, rfl⟩
  rw [show ((8 * s.size - p : Nat) : Int) = (s.size : Int) * 8 - (p : Int) by omega]
  rfl
/-- What is so behind a get: the reader is at p; all else that was there is as it was. -/
structure Read (w : World) (br : Nat) (s : ByteArray) (p : Nat) (w' : World) : Prop where
  rd : ReaderAt w' br s p
  size : w.heap.size ≤ w'.heap.size
  os : w'.os = w.os
  tape : w'.tape = w.tape
  output : w'.output = w.output
  old : ∀ k, k < w.heap.size → k ≠ br → w'.heap[k]? = w.heap[k]?
/-- What stands in memory while bits are got. -/
structure GetMem (h br : Nat) (s : ByteArray) (w0 W : World) (f m p acc : Nat) : Prop where
  c0 : W.heap[h]? = some (.cells #[.pointer (some ⟨br, 0, none⟩)] 109 (0, 0))
  c1 : W.heap[h + 1]? = some (.cells #[.int .u64 (acc : Int)] 35 (0, 0))
  c2 : W.heap[h + 1 + 1]? = some (.cells #[.int .i64 (f : Int)] 3 (0, 0))
  c3 : W.heap[h + 1 + 1 + 1]? = some (.cells #[.int .i64 (m : Int)] 3 (0, 0))
  bound : f + m ≤ 1099511627776
  m64 : m ≤ 64
  rd : ReaderAt W br s p
  size : h + 4 ≤ W.heap.size
  os : W.os = w0.os
  tape : W.tape = w0.tape
  output : W.output = w0.output
  old : ∀ k, k < h → k ≠ br → W.heap[k]? = w0.heap[k]?
theorem GetMem.own {h br : Nat} {s : ByteArray} {w0 W : World} {f m p acc : Nat} (q : GetMem h br s w0 W f m p acc) : pcOwn (h + 1 + 1) (h + 1 + 1 + 1) (f, m) W :=
  ⟨q.bound, q.m64, by rw [cell_of_row W _ _ _ _ _ q.c2]; rfl, frozen_of_row W _ _ _ _ q.c2, by rw [cell_of_row W _ _ _ _ _ q.c3]; rfl, frozen_of_row W _ _ _ _ q.c3⟩
theorem GetMem.putObj {h br : Nat} {s : ByteArray} {w0 W : World} {f m p acc l : Nat} {o : Obj} (o' : Obj) (q : GetMem h br s w0 W f m p acc) (hl : W.heap[l]? = some o) (hlo : h ≤ l) (ho : o.isCells = false) : GetMem h br s w0 (W.putObj l o') f m p acc :=
  ⟨putObj_cells q.c0 hl ho, putObj_cells q.c1 hl ho, putObj_cells q.c2 hl ho, putObj_cells q.c3 hl ho, q.bound, q.m64, putObj_cells q.rd hl ho, by simp; exact q.size, q.os, q.tape, q.output,
    fun k hk h1 => (World.putObj_heap_other (by omega)).trans (q.old k hk h1)⟩
theorem GetMem.stepped {h br : Nat} {s : ByteArray} {w0 W : World} {st : Nat × Nat} {p acc : Nat} (q : GetMem h br s w0 W st.1 st.2 p acc) (hbr : br < h) : GetMem h br s w0 (pcStepped (h + 1 + 1) (h + 1 + 1 + 1) st W) (pcNext st).1 (pcNext st).2 p acc := by
  have hs1 : take st ≤ st.2 := by unfold take; omega
  have e3 : (W.setCell ⟨h + 1 + 1, 0, none⟩ (.int .i64 (((pcNext st).1 : Nat) : Int))).heap[h + 1 + 1]? = some (.cells #[.int .i64 (((pcNext st).1 : Nat) : Int)] 3 (0, 0)) := heap_setCell_same W _ 0 _ _ _ q.c2
  have o3 : ∀ k, k ≠ h + 1 + 1 → (W.setCell ⟨h + 1 + 1, 0, none⟩ (.int .i64 (((pcNext st).1 : Nat) : Int))).heap[k]? = W.heap[k]? := fun k hk => heap_setCell_other W _ k _ hk
  have e4 : (pcStepped (h + 1 + 1) (h + 1 + 1 + 1) st W).heap[h + 1 + 1 + 1]? = some (.cells #[.int .i64 (((pcNext st).2 : Nat) : Int)] 3 (0, 0)) :=
    heap_setCell_same (W.setCell ⟨h + 1 + 1, 0, none⟩ (.int .i64 (((pcNext st).1 : Nat) : Int))) _ 0 _ _ _ ((o3 _ (by omega)).trans q.c3)
  have o4 : ∀ k, k ≠ h + 1 + 1 → k ≠ h + 1 + 1 + 1 → (pcStepped (h + 1 + 1) (h + 1 + 1 + 1) st W).heap[k]? = W.heap[k]? := fun k h1 h2 =>
    (heap_setCell_other (W.setCell ⟨h + 1 + 1, 0, none⟩ (.int .i64 (((pcNext st).1 : Nat) : Int))) _ k _ h2).trans (o3 k h1)
  refine ⟨(o4 _ (by omega) (by omega)).trans q.c0, (o4 _ (by omega) (by omega)).trans q.c1, ?_, e4, ?_, ?_, (o4 _ (by omega) (by omega)).trans q.rd, ?_, q.os, q.tape, q.output, fun k hk h1 => (o4 k (by omega) (by omega)).trans (q.old k hk h1)⟩
  · exact (heap_setCell_other (W.setCell ⟨h + 1 + 1, 0, none⟩ (.int .i64 (((pcNext st).1 : Nat) : Int))) _ _ _ (by simp)).trans e3
  · have := q.bound; unfold pcNext; simp only []; omega
  · have := q.m64; unfold pcNext; simp only []; omega
  · have := q.size; simp [pcStepped, World.setCell]; omega
/-- A round's two stores. -/
theorem GetMem.close {h br : Nat} {s : ByteArray} {w0 W : World} {f m p acc acc' t : Nat} (q : GetMem h br s w0 W f m p acc) (hbr : br < h) :
    GetMem h br s w0 ((W.setCell ⟨h + 1, 0, none⟩ (.int .u64 (acc' : Int))).setCell ⟨br, 1, none⟩ (.int .i64 ((p : Int) + (t : Int)))) f m (p + t) acc' := by
  have e1 : (W.setCell ⟨h + 1, 0, none⟩ (.int .u64 (acc' : Int))).heap[h + 1]? = some (.cells #[.int .u64 (acc' : Int)] 35 (0, 0)) := heap_setCell_same W _ 0 _ _ _ q.c1
  have o1 : ∀ k, k ≠ h + 1 → (W.setCell ⟨h + 1, 0, none⟩ (.int .u64 (acc' : Int))).heap[k]? = W.heap[k]? := fun k hk => heap_setCell_other W _ k _ hk
  have o3 : ∀ k, k ≠ br → ((W.setCell ⟨h + 1, 0, none⟩ (.int .u64 (acc' : Int))).setCell ⟨br, 1, none⟩ (.int .i64 ((p : Int) + (t : Int)))).heap[k]? = (W.setCell ⟨h + 1, 0, none⟩ (.int .u64 (acc' : Int))).heap[k]? := fun k h2 =>
    heap_setCell_other (W.setCell ⟨h + 1, 0, none⟩ (.int .u64 (acc' : Int))) _ k _ h2
  refine ⟨(o3 _ (by omega)).trans ((o1 _ (by omega)).trans q.c0), (o3 _ (by omega)).trans e1, (o3 _ (by omega)).trans ((o1 _ (by omega)).trans q.c2), (o3 _ (by omega)).trans ((o1 _ (by omega)).trans q.c3), q.bound, q.m64, ?_, by have := q.size; simp [World.setCell]; exact this, q.os, q.tape, q.output,
    fun k hk h1 => (o3 k h1).trans ((o1 k (by omega)).trans (q.old k hk h1))⟩
  have e := heap_setCell_same (W.setCell ⟨h + 1, 0, none⟩ (.int .u64 (acc' : Int))) br 1 _ _ (.int .i64 ((p : Int) + (t : Int))) ((o1 _ (by omega)).trans q.rd)
  unfold ReaderAt
  rw [e]
  simp
theorem GetMem.drewN {h br : Nat} {s : ByteArray} {w0 W : World} {f m p acc : Nat} (q : GetMem h br s w0 W f m p acc) (n : Nat) : GetMem h br s w0 (W.drewN n) f m p acc :=
  ⟨q.c0, q.c1, q.c2, q.c3, q.bound, q.m64, q.rd, q.size, q.os, q.tape, q.output, q.old⟩
theorem within_within (n : Int) : within ((within n : Nat) : Int) = within n := by unfold within; omega
theorem acc_val (a b t : Nat) (ht : a * 2 ^ t < 18446744073709551616) (hb : b < 2 ^ t) (hb2 : b < 256) : bits BinOp.or IntKind.u64 (IntKind.u64.wrap ((a : Int) * 2 ^ t)) (IntKind.u64.wrap (b : Int)) = ((a * 2 ^ t + b : Nat) : Int) := by
  have e1 : ((a : Int) * 2 ^ t) = ((a * 2 ^ t : Nat) : Int) := by simp
  rw [e1, IntWalk.u64_in _ (by omega), IntWalk.u64_in _ (by omega), u64_or_nat _ _ ht (by omega), Nat.mul_comm, ← Nat.two_pow_add_eq_or_of_lt hb]
theorem part_got (s : ByteArray) (f t pc : Nat) (x : UInt8) (hx : s.data.toList[f / 8]? = some x) (hpc : pc = x.toNat * 2 ^ (f % 8) % 256 / 2 ^ (8 - t)) {hi : f / 8 < s.size} : (((s[f / 8]'hi).toNat : Int) * 2 ^ (f % 8) % 256 / 2 ^ (8 - t)) = (pc : Int) := by
  have e : s[f / 8]'hi = x := by
    have h1 := (List.getElem?_eq_some_iff.1 hx).2
    rw [← h1]
    simp [ByteArray.getElem_eq_getElem_data]
  rw [e, hpc]
  simp
def getTmps (h br : Nat) (n N p L : Int) (x7 x8 x22 x23 : Value) : Array Value := #[.pointer (some ⟨br, 0, none⟩), .int .i64 N, .pointer (some ⟨h, 0, none⟩), undef, .int .u64 0, .bool false, .pointer (some ⟨h + 1, 0, none⟩), x7, x8, undef, .int .i64 n, .int .i64 N, .int .i64 N, .pointer (some ⟨br, 0, none⟩), .int .i64 L, .bool false, .pointer (some ⟨br, 0, none⟩), .pointer (some ⟨br, 0, none⟩), .pointer (some ⟨br, 1, none⟩), .int .i64 p, .int .i64 N, .func (.func 98) #[] #[.pointer (some ⟨h + 1 + 1 + 1, 0, none⟩), .pointer (some ⟨h + 1 + 1, 0, none⟩)], x22, x23, undef, undef, undef, undef, undef, undef, undef, undef, undef, undef, undef, undef, undef, undef, undef, undef, undef, undef, undef, undef, undef, undef, undef, undef, undef, undef, undef, undef, undef, undef]
set_option maxRecDepth 100000 in
set_option maxHeartbeats 1000000 in
/-- More than is left is not got. -/
theorem get_none (br : Nat) (s : ByteArray) (p : Nat) (n : Int) (w : World) (hr : ReaderAt w br s p) (hs : s.size ≤ 137438953472) (hp : p ≤ 8 * s.size) (hn : 8 * s.size < p + within n) :
    Calls Tryd.prog 92 #[.pointer (some ⟨br, 0, none⟩), .int .i64 n] w fun e w' => e = .returned (.tuple #[.int .u64 0, .bool false]) ∧ Read w br s p w' := by
  have hlt : br < w.heap.size := (Array.getElem?_eq_some_iff.1 hr).1
  have hrd : ReaderAt (w.alloc (.cells #[.pointer (some ⟨br, 0, none⟩)] 109)) br s p := (Below.heap_alloc _ _ _ hlt).trans hr
  have hgt : (((8 * s.size - p : Nat) : Int) < ((within n : Nat) : Int)) := by omega
  have HR := Lib.hid hr
  have HP := Lib.hid (And.intro hs hp)
  have HRD := Lib.hid hrd
  clear hr hs hp hn hrd
  generalize hL : 8 * s.size - p = L at *
  go_enter Tryd.func92, Tryd.ntmps92
  go_wp2_with (first | (go_at_call 94; refine (within_any _ _).mono ?_; rintro e w' ⟨rfl, rfl⟩) | (go_at_call 91; refine (left_any br s p _ HRD.out HP.out.1 HP.out.2).mono ?_; rintro e w' ⟨rfl, nq, rfl⟩; rw [hL]))
  go_ret2
  refine ⟨?_, (Below.heap_alloc _ _ _ hlt).trans HR.out, by simp [World.drewN], rfl, rfl, rfl, fun k hk _ => Below.heap_alloc _ _ _ hk⟩
  rfl
set_option maxRecDepth 100000 in
set_option maxHeartbeats 1000000 in
theorem get_some (br : Nat) (s : ByteArray) (p : Nat) (n : Int) (w : World) (hr : ReaderAt w br s p) (hs : s.size ≤ 68719476736) (hn : p + within n ≤ 8 * s.size) :
    Calls Tryd.prog 92 #[.pointer (some ⟨br, 0, none⟩), .int .i64 n] w fun e w' => e = .returned (.tuple #[.int .u64 ((numB (((unpack s.data.toList).drop p).take (within n)) : Nat) : Int), .bool true]) ∧ Read w br s (p + within n) w' := by
  have hlt : br < w.heap.size := (Array.getElem?_eq_some_iff.1 hr).1
  have hrd : ReaderAt (w.alloc (.cells #[.pointer (some ⟨br, 0, none⟩)] 109)) br s p := (Below.heap_alloc _ _ _ hlt).trans hr
  have hgt : ¬ (((8 * s.size - p : Nat) : Int) < ((within n : Nat) : Int)) := by omega
  have f1 := hr.f1
  have HR := Lib.hid hr
  have HP := Lib.hid (show s.size ≤ 137438953472 ∧ p ≤ 8 * s.size by omega)
  have HN := Lib.hid (show s.size ≤ 68719476736 ∧ p + within n ≤ 8 * s.size from ⟨hs, hn⟩)
  have HRD := Lib.hid hrd
  clear hr hs hn hrd
  have n1 : br < w.heap.size + 1 := by omega
  have n2 : br < w.heap.size + 1 + 1 := by omega
  generalize hL : 8 * s.size - p = L at *
  refine (callsIn_wide (n := 3)).1 ?_
  refine callsIn_of_wp_marks Tryd.func92 rfl trivial ?_ rfl
  simp only [Tryd.ntmps92, List.size_toArray, List.length_cons, List.length_nil, Nat.reduceAdd, Nat.reduceSub, Array.replicate_succ, Array.replicate_zero, List.push_toArray, List.append_toArray, List.nil_append, List.cons_append]
  gi_wp2_with (first | (gi_at_call 94; refine (callsIn_wide.2 (within_any _ _)).mono ?_; rintro e w' ⟨rfl, rfl⟩) | (gi_at_call 95; refine (callsIn_wide.2 (pieces_any _ _ _)).mono ?_; rintro e w' ⟨rfl, rfl⟩) | (gi_at_call 91; refine (callsIn_wide.2 (left_any br s p _ HRD.out HP.out.1 HP.out.2)).mono ?_; rintro e w' ⟨rfl, nq, rfl⟩; rw [hL]))
  obtain ⟨h, hh⟩ : ∃ h, w.heap.size = h := ⟨_, rfl⟩
  rw [hh]
  have hboth : ∃ w5 : World, (((((w.alloc (.cells #[.pointer (some ⟨br, 0, none⟩)] 109)).drewN nq).alloc (.cells #[.int .u64 0] 35)).alloc (.cells #[.int .i64 (p : Int)] 3)).alloc (.cells #[.int .i64 (within n : Nat)] 3)) = w5 ∧ w5.heap.size = h + 4 ∧
      w5.heap[h]? = some (.cells #[.pointer (some ⟨br, 0, none⟩)] 109 (0, 0)) ∧ w5.heap[h + 1]? = some (.cells #[.int .u64 0] 35 (0, 0)) ∧ w5.heap[h + 1 + 1]? = some (.cells #[.int .i64 (p : Int)] 3 (0, 0)) ∧
      w5.heap[h + 1 + 1 + 1]? = some (.cells #[.int .i64 (within n : Nat)] 3 (0, 0)) ∧ (∀ i, i < h → w5.heap[i]? = w.heap[i]?) ∧ w5.os = w.os ∧ w5.tape = w.tape ∧ w5.output = w.output := by
    have zd : ∀ (o : Obj), ((w.alloc o).drewN nq).heap.size = h + 1 := fun o => by simp [World.drewN, hh]
    refine ⟨_, rfl, by simp [World.drewN, hh], ?_, ?_, ?_, ?_, ?_, rfl, rfl, rfl⟩
    · rw [heap_past _ _ (by simp; omega), heap_past _ _ (by simp; omega), heap_past _ _ (by rw [zd]; omega)]
      exact heap_at _ _ hh.symm
    · rw [heap_past _ _ (by simp; omega), heap_past _ _ (by simp; omega), heap_at _ _ (by simp [World.drewN, hh])]
    · rw [heap_past _ _ (by simp; omega), heap_at _ _ (by simp [World.drewN, hh])]
    · rw [heap_at _ _ (by simp [World.drewN, hh])]
    · intro i hi
      rw [heap_past _ _ (by simp; omega), heap_past _ _ (by simp; omega), heap_past _ _ (by rw [zd]; omega)]
      exact heap_past _ _ (by omega)
  obtain ⟨w5, hw5, z5, g0, g1, g2, g3, gold, gos, gtape, gout⟩ := hboth
  rw [hw5]
  rw [hh] at n1 n2 hlt
  clear hw5 f1
  obtain ⟨B, hB⟩ : ∃ B, unpack s.data.toList = B := ⟨_, rfl⟩
  have hBl : B.length = 8 * s.size := by rw [← hB, unpack_length]; simp
  refine wpIn_rangeFunc_st (σ := Nat × Nat) (gf := 98) (lb := #[.pointer (some ⟨h + 1 + 1 + 1, 0, none⟩), .pointer (some ⟨h + 1 + 1, 0, none⟩)]) rfl (enters_of Tryd.func98 (by kernel_rfl) rfl)
    (pieces_iter (h + 1 + 1) (h + 1 + 1 + 1) p ((within n : Nat) : Int) (by omega)) (fun _ => rfl) (fun W => KeepsNon.setCell _ _ _ _) (fun s W => (KeepsNon.setCell _ _ _ _).trans (KeepsNon.setCell _ _ _ _))
    (fun q W => q.1 + q.2 = p + within n ∧ p ≤ q.1 ∧ GetMem h br s w W q.1 q.2 q.1 (numB ((B.drop p).take (q.1 - p))))
    (fun q W => q.1 + q.2 = p + within n ∧ p ≤ q.1 ∧ GetMem h br s w W q.1 q.2 (pcNext q).1 (numB ((B.drop p).take ((pcNext q).1 - p))))
    ?own ?own' ?step ?hI ?hI' ?begins ?start (fun q => { tmps := getTmps h br n (within n : Nat) p L (.int .i64 ((q.1 % 8 : Nat) : Int)) (.int .i64 ((take q : Nat) : Int)) (.int .i64 ((q.1 % 8 : Nat) : Int)) (.int .i64 ((take q : Nat) : Int)), defers := [] }) ?assign ?body ?done
  case own => rintro q W ⟨-, -, hp⟩; exact hp.own
  case own' => rintro q W ⟨-, -, hp⟩; exact hp.own
  case step =>
    rintro q W hm ⟨h1, h2, hp⟩
    have ht : take q ≤ q.2 := by unfold take; omega
    refine ⟨?_, ?_, hp.stepped hlt⟩
    · unfold pcNext; simp only []; omega
    · unfold pcNext; simp only []; omega
  case hI =>
    rintro q W l o o' ⟨h1, h2, hp⟩ hlo hl ho
    exact ⟨h1, h2, hp.putObj o' hl (by omega) ho⟩
  case hI' =>
    rintro q W l o o' ⟨h1, h2, hp⟩ hlo hl ho
    exact ⟨h1, h2, hp.putObj o' hl (by omega) ho⟩
  case begins =>
    intro o1 o2
    have e : ((w5.alloc o1).alloc o2).heap[h + 1 + 1 + 1]? = some (.cells #[.int .i64 (within n : Nat)] 3 (0, 0)) := by
      rw [Below.heap_alloc _ _ _ (by simp; omega), Below.heap_alloc _ _ _ (by omega)]; exact g3
    exact ⟨by rw [cell_of_row _ _ _ _ _ _ e]; rfl, frozen_of_row _ _ _ _ _ e⟩
  case start =>
    intro o1 o2 h1 h2
    have ea : ∀ i, i < h + 4 → ((w5.alloc o1).alloc o2).heap[i]? = w5.heap[i]? := fun i hi => by
      rw [Below.heap_alloc _ _ _ (by simp; omega), Below.heap_alloc _ _ _ (by omega)]
    have ez : ((w5.alloc o1).alloc o2).heap.size = h + 6 := by simp; omega
    have es : ((w5.alloc o1).alloc o2).os = w.os ∧ ((w5.alloc o1).alloc o2).tape = w.tape ∧ ((w5.alloc o1).alloc o2).output = w.output := ⟨gos, gtape, gout⟩
    generalize (w5.alloc o1).alloc o2 = w7 at ea ez es
    have eo : ∀ i, i ≠ h + 1 + 1 + 1 → (pcBegun (h + 1 + 1 + 1) ((within n : Nat) : Int) w7).heap[i]? = w7.heap[i]? := fun i hi => heap_setCell_other _ _ _ _ hi
    have eb : ∀ i, i < h → (pcBegun (h + 1 + 1 + 1) ((within n : Nat) : Int) w7).heap[i]? = w.heap[i]? := fun i hi => by rw [eo i (by omega), ea i (by omega), gold i hi]
    have hn := HN.out
    refine ⟨by simp only [within_within], Nat.le_refl _, ?_, ?_, ?_, ?_, ?_, ?_, ?_, ?_, es.1, es.2.1, es.2.2, fun i hi _ => eb i hi⟩
    · rw [eo _ (by omega), ea _ (by omega), g0]
    · rw [eo _ (by omega), ea _ (by omega), g1]; simp [numB]
    · rw [eo _ (by omega), ea _ (by omega), g2]
    · exact heap_setCell_same w7 _ 0 _ _ _ ((ea _ (by omega)).trans g3)
    · have := within_le n; simp only [within_within]; omega
    · have := within_le n; simp only [within_within]; omega
    · exact (eb _ hlt).trans HR.out
    · have : (pcBegun (h + 1 + 1 + 1) ((within n : Nat) : Int) w7).heap.size = w7.heap.size := by simp [pcBegun, World.setCell]
      omega
  case assign =>
    intro l m s W K hK
    unfold pcEncs
    unfold getTmps at hK
    gi_wp2
    exact hK
  case body =>
    rintro l mm ⟨f, m⟩ W hm ⟨h1, h2, hp⟩
    have hpos : 0 < m := hm
    have hp0 : GetMem h br s w W f m f (numB ((B.drop p).take (f - p))) := hp
    have h1' : f + m = p + within n := h1
    have h2' : p ≤ f := h2
    have ht0 : 0 < take (f, m) := by unfold take; simp only []; omega
    have ht1 : take (f, m) ≤ m := by unfold take; simp only []; omega
    have ht2 : f % 8 + take (f, m) ≤ 8 := by unfold take; simp only []; omega
    have hnext : pcNext (f, m) = (f + take (f, m), m - take (f, m)) := rfl
    have hlen := hp0.bound
    have hm64 := hp0.m64
    have hN := HN.out
    have hN64 := within_le n
    generalize htk : take (f, m) = t at *
    unfold getTmps
    have hsl : s.data.toList.length = s.size := by simp
    have hlx : f / 8 < s.data.toList.length := by omega
    obtain ⟨x, hx⟩ : ∃ x, s.data.toList[f / 8]? = some x := ⟨_, List.getElem?_eq_getElem hlx⟩
    have hpc := unpack_piece s.data.toList f t x ht2 hx
    rw [hB] at hpc
    have hacc := numB_got B p (f - p) t (by omega)
    rw [show p + (f - p) = f by omega, show f - p + t = f + t - p by omega] at hacc
    have hplt := numB_take_lt (B.drop f) t
    have halt : numB ((B.drop p).take (f - p)) * 2 ^ t < 18446744073709551616 := by
      have a1 := numB_take_lt (B.drop p) (f - p)
      have a2 : numB ((B.drop p).take (f - p)) * 2 ^ t < 2 ^ (f - p) * 2 ^ t := Nat.mul_lt_mul_of_pos_right a1 (Nat.two_pow_pos _)
      rw [← Nat.pow_add] at a2
      have a3 : (2 : Nat) ^ (f - p + t) ≤ 2 ^ 64 := Nat.pow_le_pow_right (by omega) (by omega)
      exact Nat.lt_of_lt_of_le a2 a3
    generalize hA : numB ((B.drop p).take (f - p)) = A at *
    generalize hP : numB ((B.drop f).take t) = pc at *
    have hgoal : ∀ nq : Nat, KeepsNon w5.heap.size W (((W.drewN nq).setCell ⟨h + 1, 0, none⟩ (.int .u64 ((A * 2 ^ t + pc : Nat) : Int))).setCell ⟨br, 1, none⟩ (.int .i64 ((f : Int) + (t : Int)))) ∧
        (f + m = p + within n ∧ p ≤ f ∧ GetMem h br s w (((W.drewN nq).setCell ⟨h + 1, 0, none⟩ (.int .u64 ((A * 2 ^ t + pc : Nat) : Int))).setCell ⟨br, 1, none⟩ (.int .i64 ((f : Int) + (t : Int)))) f m (pcNext (f, m)).1 (numB ((B.drop p).take ((pcNext (f, m)).1 - p)))) := by
      intro nq
      rw [hnext]
      simp only []
      rw [hacc]
      exact ⟨((KeepsNon.drewN _ _ _).trans (KeepsNon.setCell _ _ _ _)).trans (KeepsNon.setCell _ _ _ _), h1', h2', (hp0.drewN nq).close hlt⟩
    have HG := Lib.hid hgoal
    have C0 : W.cell? ⟨h, 0, none⟩ = some (.pointer (some ⟨br, 0, none⟩)) := by rw [cell_of_row W _ _ _ _ _ hp0.c0]; rfl
    have C1 : W.cell? ⟨h + 1, 0, none⟩ = some (.int .u64 (A : Int)) := by rw [cell_of_row W _ _ _ _ _ hp0.c1]; rfl
    have F1 : W.frozen? ⟨h + 1, 0, none⟩ = false := frozen_of_row W _ _ _ _ hp0.c1
    have B0 := hp0.rd.f0
    have B1 := hp0.rd.f1
    have F2 : W.frozen? ⟨br, 1, none⟩ = false := frozen_of_row W _ _ _ _ hp0.rd
    have HX := Lib.hid hx
    have HPC := Lib.hid hpc
    have HLT := Lib.hid (And.intro hplt halt)
    have hix : (f : Int) / 8 < (s.size : Int) := by omega
    have hix0 : (0 : Int) ≤ (f : Int) / 8 := by omega
    clear hgoal hx hpc hplt halt hacc hlx hA hP hnext htk g0 g1 g2 g3 gold h1 h2 hp hp0 hm hN h1' h2'
    gi_wp2_with fail
    refine wpIn_round_quiet' (by kernel_rfl) (by kernel_rfl) (by kernel_rfl) ?_
    repeat (go_big_quiet_step (fail))
    refine wpQuiet_nil ?_
    intro _ hw'
    obtain ⟨nq2, hw''⟩ := hw'
    subst hw''
    rw [part_got s f t pc x HX.out HPC.out]
    have hpc8 : pc < 256 := by
      have a1 := HLT.out.1
      have a2 : (2 : Nat) ^ t ≤ 2 ^ 8 := Nat.pow_le_pow_right (by omega) (by omega)
      omega
    have HE := Lib.hid (HG.out nq2)
    have HT8 := Lib.hid hpc8
    clear HG hpc8
    gi_wp2
    rw [acc_val A pc t HLT.out.2 HLT.out.1 HT8.out]
    exact HE.out
  case done =>
    rintro D ⟨f, m⟩ W hD hm ⟨h1, h2, hp⟩ hK
    obtain rfl : m = 0 := by unfold pcMore at hm; omega
    have hp2 := hp.putObj (.deferred none) hK (by omega) rfl
    have hf : f = p + within n := h1
    subst hf
    have C1 := hp.c1
    simp only [Nat.add_sub_cancel_left] at C1
    have D1 : W.cell? ⟨h + 1, 0, none⟩ = some (.int .u64 ((numB ((B.drop p).take (within n)) : Nat) : Int)) := by rw [cell_of_row _ _ _ _ _ _ C1]; rfl
    have hfin : Read w br s (p + within n) (W.putObj D (.deferred none)) := ⟨hp2.rd, by have := hp2.size; omega, hp2.os, hp2.tape, hp2.output, fun i hi => hp2.old i (by omega)⟩
    have HF := Lib.hid hfin
    have HB := Lib.hid hB
    clear hfin hp hp2 h1 h2 hB C1
    gi_wp2
    refine ⟨by simp, .inl ⟨_, _, rfl, run_takeDeferred hK, ?_⟩⟩
    refine ⟨_, results_tmp2 rfl _ _ _, ?_, HF.out⟩
    rw [HB.out]
    rfl
end Go.Proofs.YtdidengokijcjaaDoor.BitsW
/-
  THE SMALL FUNCTIONS OF bits: NewWriter, Len, Bytes, NewReader, Clean.
-/
namespace Go.Proofs.YtdidengokijcjaaDoor.BitsW
open Go.RowKit Go.Shelf BitsM
theorem newWriter_any (w : World) : Calls Tryd.prog 71 #[] w fun e w' => e = .returned (.pointer (some ⟨w.heap.size, 0, none⟩)) ∧ WriterAt w' w.heap.size none [] ∧ Below w.heap.size w w' ∧ w.heap.size < w'.heap.size := by
  go_enter Tryd.func71, Tryd.ntmps71
  go_wp2
  go_ret
  refine ⟨rfl, ⟨.slice none 0 0, heap_at _ _ rfl, rfl, by simp, by simp [byteCells, pack], .inl ⟨rfl, by simp [pack]⟩⟩, (Below.refl _ _).alloc (Nat.le_refl _) _, by simp⟩
theorem newReader_any (s : ByteArray) (w : World) : Calls Tryd.prog 76 #[.string s] w fun e w' => e = .returned (.pointer (some ⟨w.heap.size, 0, none⟩)) ∧ ReaderAt w' w.heap.size s 0 ∧ Below w.heap.size w w' ∧ w.heap.size < w'.heap.size := by
  go_enter Tryd.func76, Tryd.ntmps76
  go_wp2
  go_ret
  refine ⟨rfl, heap_at _ _ rfl, (Below.refl _ _).alloc (Nat.le_refl _) _, by simp⟩
theorem bytes_any (bw : Nat) (rb : Option Nat) (b : List Bool) (w : World) (hw : WriterAt w bw rb b) : Calls Tryd.prog 73 #[.pointer (some ⟨bw, 0, none⟩)] w fun e w' => e = .returned (.string ⟨(pack b).toArray⟩) ∧ w = w' := by
  obtain ⟨sv, hbw, -, -, hrow⟩ := hw
  have hc0 : w.cell? ⟨bw, 0, none⟩ = some sv := by rw [cell_of_row w _ _ _ _ _ hbw]; rfl
  have hconv := conv_owned (P := Tryd.prog) (src := 46) (dst := 9) Tryd.underlying46 Tryd.underlying5 Tryd.underlying9 hrow
  clear hbw hrow
  go_enter Tryd.func73, Tryd.ntmps73
  go_wp2
  go_ret
  exact ⟨rfl, rfl⟩
theorem left_below (br : Nat) (s : ByteArray) (p : Nat) (w : World) (hr : ReaderAt w br s p) (hs : s.size ≤ 137438953472) (hp : p ≤ 8 * s.size) :
    Calls Tryd.prog 91 #[.pointer (some ⟨br, 0, none⟩)] w fun e w' => e = .returned (.int .i64 ((8 * s.size - p : Nat) : Int)) ∧ Below w.heap.size w w' ∧ w'.heap.size = w.heap.size :=
  (left_any br s p w hr hs hp).mono fun _ _ ⟨h1, n, h2⟩ => by subst h2; exact ⟨h1, ⟨rfl, rfl, rfl, Nat.le_refl _, fun _ _ => rfl⟩, rfl⟩
set_option maxHeartbeats 1000000 in
theorem clean_big (br : Nat) (s : ByteArray) (p : Nat) (w : World) (hr : ReaderAt w br s p) (hs : s.size ≤ 68719476736) (hp : p + 8 ≤ 8 * s.size) :
    Calls Tryd.prog 78 #[.pointer (some ⟨br, 0, none⟩)] w fun e w' => e = .returned (.bool false) ∧ ∃ n, w.drewN n = w' := by
  have HP := Lib.hid (show s.size ≤ 137438953472 ∧ p ≤ 8 * s.size by omega)
  have HR := Lib.hid hr
  have hge : (8 : Int) ≤ ((8 * s.size - p : Nat) : Int) := by omega
  clear hr hs hp
  generalize hL : 8 * s.size - p = L at *
  go_enter Tryd.func78, Tryd.ntmps78
  go_wp2_with (go_at_call 91; refine (left_any br s p _ HR.out HP.out.1 HP.out.2).mono ?_; rintro e w' ⟨rfl, nq, rfl⟩; rw [hL])
  go_ret
  exact ⟨rfl, _, rfl⟩
set_option maxHeartbeats 1000000 in
theorem clean_small (br : Nat) (s : ByteArray) (p : Nat) (w : World) (hr : ReaderAt w br s p) (hs : s.size ≤ 68719476736) (hp : 8 * s.size < p + 8) (hp2 : p ≤ 8 * s.size) :
    Calls Tryd.prog 78 #[.pointer (some ⟨br, 0, none⟩)] w fun e w' => e = .returned (.bool (decide (numB ((unpack s.data.toList).drop p) = 0))) ∧ Below w.heap.size w w' := by
  have HP := Lib.hid (show s.size ≤ 137438953472 ∧ p ≤ 8 * s.size by omega)
  have HS := Lib.hid hs
  have HR := Lib.hid hr
  have hge : ((8 * s.size - p : Nat) : Int) < 8 := by omega
  have hwi : within ((8 * s.size - p : Nat) : Int) = 8 * s.size - p := by unfold within; omega
  have b0 := hr.f0
  have b1 := hr.f1
  have hub : (unpack s.data.toList).length = 8 * s.size := by rw [unpack_length]; simp
  have htk : ((unpack s.data.toList).drop p).take (8 * s.size - p) = (unpack s.data.toList).drop p := List.take_of_length_le (by rw [List.length_drop, hub]; omega)
  have HW := Lib.hid (And.intro hwi (And.intro htk (show p + (8 * s.size - p) ≤ 8 * s.size by omega)))
  clear hr hs hp hp2 hwi hub htk
  generalize hL : 8 * s.size - p = L at *
  go_enter Tryd.func78, Tryd.ntmps78
  go_wp2_with fail
  refine (left_below br s p _ HR.out HP.out.1 HP.out.2).mono ?_
  rintro e w1 ⟨rfl, hb1, hz1⟩
  rw [hL]
  have c0 : w1.cell? ⟨br, 0, none⟩ = some (.string s) := (World.cell?_of_block (hb1.block br (Array.getElem?_eq_some_iff.1 HR.out).1)).trans b0
  have c1 : w1.cell? ⟨br, 1, none⟩ = some (.int .i64 (p : Int)) := (World.cell?_of_block (hb1.block br (Array.getElem?_eq_some_iff.1 HR.out).1)).trans b1
  go_wp2_with fail
  have r2 : ReaderAt (w1.alloc (.cells #[.string s, .int .i64 (p : Int)] 135)) w.heap.size s p := heap_at _ _ hz1.symm
  have hb2 : Below w.heap.size w (w1.alloc (.cells #[.string s, .int .i64 (p : Int)] 135)) := hb1.alloc (by omega) _
  have HR2 := Lib.hid r2
  have HB2 := Lib.hid hb2
  clear r2 hb2 hb1
  generalize w1.alloc (.cells #[.string s, .int .i64 (p : Int)] 135) = w2 at *
  refine (left_below w.heap.size s p _ HR2.out HP.out.1 HP.out.2).mono ?_
  rintro e w3 ⟨rfl, hb3, hz3⟩
  rw [hL]
  have r3 : ReaderAt w3 w.heap.size s p := (hb3.block _ (Array.getElem?_eq_some_iff.1 HR2.out).1).trans HR2.out
  have HR3 := Lib.hid r3
  have HB3 := Lib.hid (later HB2.out hb3)
  clear r3 hb3
  go_wp2_with fail
  refine (get_some w.heap.size s p (L : Int) _ HR3.out HS.out (by rw [HW.out.1]; exact HW.out.2.2)).mono ?_
  rintro e w4 ⟨rfl, hrd⟩
  have HB4 : Below w.heap.size w w4 := HB3.out.trans ⟨hrd.os, hrd.tape, hrd.output, hrd.size, fun k hk => hrd.old k (Nat.lt_of_lt_of_le hk HB3.out.size) (by omega)⟩
  rw [HW.out.1, HW.out.2.1]
  have HB5 := Lib.hid HB4
  clear hrd HB4 HR HR2 HR3 HB2 HB3 c0 c1 b0 b1
  obtain ⟨v, hv⟩ : ∃ v, numB ((unpack s.data.toList).drop p) = v := ⟨_, rfl⟩
  rw [hv]
  have HV := Lib.hid hv
  clear hv
  go_wp2
  go_ret
  refine ⟨?_, HB5.out⟩
  have e : ((v : Int) == 0) = decide (v = 0) := by by_cases h : v = 0 <;> simp [h]
  rw [HV.out, ← e]
  rfl
end Go.Proofs.YtdidengokijcjaaDoor.BitsW
/-
  THE WALKS OF THE DOCUMENT's ANSWER FOR BITS (alluviumref02).
-/
namespace Go.Proofs.YtdidengokijcjaaDoor.BitsW
open Go.RowKit Go.Shelf BitsM
/-- Bits as a text of 0 and 1. -/
def chr (x : Bool) : UInt8 := if x then 49 else 48
def bstr (b : List Bool) : ByteArray := ⟨(b.map chr).toArray⟩
theorem bstr_size (b : List Bool) : (bstr b).size = b.length := by simp [bstr, ByteArray.size]
theorem bstr_append (b c : List Bool) : bstr (b ++ c) = bstr b ++ bstr c := by
  apply ByteArray.ext
  simp [bstr]
theorem bstr_one (b : List Bool) : (⟨#[49]⟩ : ByteArray) ++ bstr b = bstr (true :: b) := (bstr_append [true] b).symm
theorem bstr_zero (b : List Bool) : (⟨#[48]⟩ : ByteArray) ++ bstr b = bstr (false :: b) := (bstr_append [false] b).symm
theorem bstr_more (b : List Bool) : bstr b ++ (⟨#[48]⟩ : ByteArray) = bstr (b ++ [false]) := (bstr_append b [false]).symm
theorem bstr_extract (b : List Bool) (i j : Nat) : (bstr b).extract i j = bstr ((b.drop i).take (j - i)) := by
  apply ByteArray.ext
  apply Array.ext'
  simp [bstr, List.map_take, List.map_drop]
theorem bstr_get (b : List Bool) (i : Nat) (h : i < (bstr b).size) : (bstr b)[i] = chr (b[i]'(by rw [bstr_size] at h; exact h)) := by
  simp [bstr, ByteArray.getElem_eq_getElem_data]
theorem chr_one (x : Bool) : (((chr x).toNat : Int) == 49) = x := by cases x <;> decide
theorem chr_zero (x : Bool) : (((chr x).toNat : Int) == 48) = !x := by cases x <;> decide
theorem chr_nz (x : Bool) : (((chr x).toNat : Int) != 48) = x := by cases x <;> decide
theorem bstr_inj {b c : List Bool} (h : bstr b = bstr c) : b = c := by
  have h1 := congrArg (fun s : ByteArray => s.data.toList) h
  simp only [bstr] at h1
  have hi : ∀ x y : Bool, chr x = chr y → x = y := by decide
  exact (List.map_inj_right hi).1 h1
theorem msb_cons (v i : Nat) : msb v (i + 1) = decide (v / 2 ^ i % 2 = 1) :: msb v i := by
  rw [Nat.add_comm, msb_append]; rfl
set_option maxHeartbeats 400000 in
theorem rbits_any (v : Nat) (n : Int) (w : World) (hv : v < 18446744073709551616) (hn : n ≤ 9223372036854775807) :
    Calls Tryd.prog 46 #[.int .u64 v, .int .i64 n] w fun e w' => e = .returned (.string (bstr (msb v (within n)))) ∧ w = w' := by
  have hwl := within_le n
  have hwc := within_cast n
  generalize hN : within n = N at *
  go_enter Tryd.func46, Tryd.ntmps46
  go_wp2
  go_loop [0, 5, 6] (fun v0 v5 v6 => ∃ i : Nat, i ≤ N ∧ v6 = .int .i64 i ∧ v0 = .int .u64 ((v / 2 ^ i : Nat) : Int) ∧ v5 = .string (bstr (msb v i))) (fun _ _ v6 => 64 - (intOf v6).toNat)
  case atStart => exact ⟨0, Nat.zero_le _, rfl, by simp, rfl⟩
  case round =>
    obtain ⟨i, hi, rfl, rfl, rfl⟩ := hrel
    have hq : v / 2 ^ i ≤ v := Nat.div_le_self _ _
    generalize hx : v / 2 ^ i = x at *
    by_cases hlt : i < N
    · have c1 : (i : Int) < n := by omega
      have c2 : (i : Int) < 64 := by omega
      have hz : (bstr (msb v i)).size = i := by rw [bstr_size, msb_length]
      by_cases hb : x % 2 = 1
      · have hb' : ((x : Int) % 2 == 1) = true := by simp; omega
        go_wp2
        go_round
        case rel => exact ⟨i + 1, by omega, by go_num, by rw [Nat.pow_succ, ← Nat.div_div_eq_div_mul, hx]; go_num, by rw [bstr_one, msb_cons, hx, hb]; rfl⟩
        case measure => simp [intOf]; omega
      · have hb' : ((x : Int) % 2 == 1) = false := by simp; omega
        go_wp2
        go_round
        case rel => exact ⟨i + 1, by omega, by go_num, by rw [Nat.pow_succ, ← Nat.div_div_eq_div_mul, hx]; go_num, by rw [bstr_zero, msb_cons, hx]; simp [hb]⟩
        case measure => simp [intOf]; omega
    · obtain rfl : i = N := by omega
      by_cases c1 : (i : Int) < n
      · have c2 : ¬ (i : Int) < 64 := by omega
        go_wp2
        go_ret
        exact ⟨rfl, rfl⟩
      · go_wp2
        go_ret
        exact ⟨rfl, rfl⟩
theorem take_snocB (b : List Bool) (i : Nat) (h : i < b.length) : b.take (i + 1) = b.take i ++ [b[i]] := by
  rw [List.take_add_one, List.getElem?_eq_getElem h]; rfl
theorem numB_step (b : List Bool) (i : Nat) (h : i < b.length) : numB (b.take (i + 1)) = 2 * numB (b.take i) + b[i].toNat := by
  rw [take_snocB b i h, numB_snoc]
set_option maxHeartbeats 400000 in
theorem rnumber_any (b : List Bool) (w : World) (hb : b.length ≤ 64) :
    Calls Tryd.prog 43 #[.string (bstr b)] w fun e w' => e = .returned (.int .u64 (numB b : Nat)) ∧ w = w' := by
  have hz := bstr_size b
  generalize hl : b.length = l at *
  go_enter Tryd.func43, Tryd.ntmps43
  go_wp2
  go_loop [3, 4] (fun v3 v4 => ∃ i : Nat, i ≤ l ∧ v4 = .int .i64 i ∧ v3 = .int .u64 (numB (b.take i) : Nat)) (fun _ v4 => 64 - (intOf v4).toNat)
  case atStart => exact ⟨0, Nat.zero_le _, rfl, rfl⟩
  case round =>
    obtain ⟨i, hi, rfl, rfl⟩ := hrel
    by_cases hlt : i < l
    · have hbi : i < (bstr b).size := by omega
      have hxl := numB_take_lt b i
      have hp : (2 : Nat) ^ i ≤ 2 ^ 63 := Nat.pow_le_pow_right (by omega) (by omega)
      have hx : numB (b.take i) < 9223372036854775808 := Nat.lt_of_lt_of_le hxl hp
      have hstep := numB_step b i (by omega)
      have hge := congrArg (fun x : UInt8 => ((x.toNat : Int) == 49)) (bstr_get b i hbi)
      simp only [chr_one] at hge
      generalize b[i]'(by omega) = y at hge hstep
      generalize numB (b.take i) = x at *
      have w1 : IntKind.u64.wrap ((x : Int) * 2) = (x : Int) * 2 := IntWalk.u64_in _ (by omega)
      have w2 : IntKind.u64.wrap ((x : Int) * 2 + 1) = (x : Int) * 2 + 1 := IntWalk.u64_in _ (by omega)
      clear hxl hp
      have HS := Lib.hid hstep
      clear hstep
      cases y
      · go_wp2
        go_round
        case rel => exact ⟨i + 1, by omega, by go_num, by rw [HS.out]; simp; omega⟩
        case measure => simp [intOf]; omega
      · go_wp2
        go_round
        case rel => exact ⟨i + 1, by omega, by go_num, by rw [HS.out]; simp; omega⟩
        case measure => simp [intOf]; omega
    · obtain rfl : i = l := by omega
      go_wp2
      go_ret
      refine ⟨?_, rfl⟩
      rw [List.take_of_length_le (by omega)]
      rfl
theorem take_snocU (s : ByteArray) (k : Nat) (h : k < s.size) : s.data.toList.take (k + 1) = s.data.toList.take k ++ [s[k]] := by
  have hl : k < s.data.toList.length := by simpa using h
  rw [List.take_add_one, List.getElem?_eq_getElem hl]
  simp [ByteArray.getElem_eq_getElem_data]
theorem elem_u8 : Elem Tryd.prog 5 (.int .u8 0) 1 1 := by unfold Elem; kernel_rfl
set_option maxHeartbeats 1000000 in
theorem rbytes_any (b : List Bool) (w : World) (hb : b.length ≤ 1099511627776) :
    Calls Tryd.prog 31 #[.string (bstr b)] w fun e w' => e = .returned (.string ⟨(pack b).toArray⟩) ∧ Below w.heap.size w w' := by
  generalize hl : b.length = l at *
  go_enter Tryd.func31, Tryd.ntmps31
  go_wp2
  go_loop [0] (fun v0 => ∃ k : Nat, k ≤ (8 - l % 8) % 8 ∧ v0 = .string (bstr (b ++ List.replicate k false))) (fun v0 => match v0 with | .string s => (8 - s.size % 8) % 8 | _ => 0)
  case atStart => exact ⟨0, Nat.zero_le _, by simp⟩
  case round =>
    obtain ⟨k, hk, rfl⟩ := hrel
    obtain ⟨q, hq⟩ : ∃ q, l + k = q := ⟨_, rfl⟩
    have hz : (bstr (b ++ List.replicate k false)).size = q := by rw [bstr_size, List.length_append, hl, List.length_replicate, hq]
    by_cases hlt : k < (8 - l % 8) % 8
    · have hq8 : ¬ (q : Int) % 8 = 0 := by omega
      have hr : ((q : Int) % 8 != 0) = true := by simp [hq8]
      go_wp2
      go_round
      case rel => exact ⟨k + 1, by omega, by rw [bstr_more, List.append_assoc, ← List.replicate_succ']⟩
      case measure =>
        show (8 - (bstr (b ++ List.replicate k false) ++ (⟨#[48]⟩ : ByteArray)).size % 8) % 8 < (8 - (bstr (b ++ List.replicate k false)).size % 8) % 8
        rw [bstr_more, bstr_size, List.length_append, ← bstr_size, hz, List.length_singleton]
        omega
    · have hq8 : (q : Int) % 8 = 0 := by omega
      have hr : ((q : Int) % 8 != 0) = false := by simp [hq8]
      have hpad := pack_pad b k (by omega) (by omega)
      have hlen : (b ++ List.replicate k false).length = q := by rw [List.length_append, hl, List.length_replicate, hq]
      have HP := Lib.hid hpad
      clear hpad
      generalize b ++ List.replicate k false = c at *
      go_wp2
      have hq2 : q ≤ 1099511627784 := by omega
      clear hr hq hk hlt hl hb
      have hqn : q % 8 = 0 := by omega
      go_loopw [3, 4] (fun v3 v4 wr => ∃ p : Nat, p ≤ q ∧ p % 8 = 0 ∧ v4 = .int .i64 p ∧ wr.ownsRow w.heap.size 5 1 v3 (p / 8) (byteCells ((pack c).take (p / 8))) ∧ Below w.heap.size w wr) (fun _ v4 _ => q - (intOf v4).toNat)
      case atStart => exact ⟨0, Nat.zero_le _, rfl, rfl, World.ownsRow_nil _ _ _ _, Below.refl _ _⟩
      case round =>
        obtain ⟨p, hp, hp8, rfl, hown, hb⟩ := hrel
        by_cases hlt : p < q
        · have hsl := slice_mid (P := Tryd.prog) Tryd.underlying9 (bstr c) (p : Int) ((p : Int) + 8) p (p + 8) rfl (by omega) (by omega) (by omega)
          rw [bstr_extract, Nat.add_sub_cancel_left] at hsl
          have hpt := pack_take c (p / 8) (by omega)
          rw [show 8 * (p / 8) = p by omega] at hpt
          have hdl : ((c.drop p).take 8).length = 8 := by rw [List.length_take, List.length_drop]; omega
          have hdx := numB_lt ((c.drop p).take 8)
          rw [hdl] at hdx
          generalize (c.drop p).take 8 = d at *
          obtain ⟨x, hx⟩ : ∃ x, numB d = x := ⟨_, rfl⟩
          rw [hx] at hdx hpt
          have HX := Lib.hid (And.intro hx (And.intro hdl hpt))
          clear hx hdl hpt
          have hx256 : x < 256 := hdx
          clear hdx
          go_wp2_with (first | (go_at_call 43; refine (rnumber_any d _ (by rw [HX.out.2.1]; omega)).mono ?_; rintro e w' ⟨rfl, rfl⟩; rw [HX.out.1]) | (at_builtin; go_must (refine wpList_append_one rfl _ _ 46 rfl w.heap.size 5 (.int .u8 0) 1 1 Tryd.underlying46 elem_u8 rfl (by decide) wr hown rfl _ rfl rfl (one1 rfl) (by omega) (by omega) hb.size ?_); intro v' w' hown' hb' hz'; clear hown))
          go_roundw
          case rel =>
            refine ⟨p + 8, by omega, by omega, by go_num, ?_, hb.trans hb'⟩
            rw [show (p + 8) / 8 = p / 8 + 1 by omega, HX.out.2.2, byteCells_append]
            have e2 : byteCells [UInt8.ofNat x] = [Value.int .u8 (x : Int)] := by simp [byteCells]; omega
            rw [e2]; exact hown'
          case measure => simp [intOf]; omega
        · obtain rfl : p = q := by omega
          have htl : (pack c).take (p / 8) = pack c := List.take_of_length_le (by rw [pack_length]; omega)
          rw [htl] at hown
          have hconv := conv_owned (P := Tryd.prog) (src := 46) (dst := 9) Tryd.underlying46 Tryd.underlying5 Tryd.underlying9 hown
          clear hown htl
          go_wp2
          go_ret
          refine ⟨?_, hb⟩
          rw [← HP.out]
          rfl
end Go.Proofs.YtdidengokijcjaaDoor.BitsW
