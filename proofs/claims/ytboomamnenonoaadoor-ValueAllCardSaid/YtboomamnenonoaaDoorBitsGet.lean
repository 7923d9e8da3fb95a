/-
  (*bits.Reader).Left AND (*bits.Reader).Get.
-/
import Derived.Test.YtboomamnenonoaaDoorBitsMem
import Derived.Test.YtboomamnenonoaaDoorBitsMath2
import Derived.Test.YtboomamnenonoaaDoorRoundZ
import Derived.Shelf.Abstract
namespace Go.Proofs.YtboomamnenonoaaDoor.BitsW
open Go.RowKit Go.Shelf BitsM
attribute [local go_sem] Oper.semAt_some wide_fn wide_depth wide_fn_in wide_depth_in
/-- A reader in block br: of the bytes s, at the bit p. -/
def ReaderAt (W : World) (br : Nat) (s : ByteArray) (p : Nat) : Prop := W.heap[br]? = some (.cells #[.string s, .int .i64 (p : Int)] 63 (0, 0))
theorem ReaderAt.f0 {W : World} {br : Nat} {s : ByteArray} {p : Nat} (h : ReaderAt W br s p) : W.cell? ⟨br, 0, none⟩ = some (.string s) := by rw [cell_of_row W _ _ _ _ _ h]; rfl
theorem ReaderAt.f1 {W : World} {br : Nat} {s : ByteArray} {p : Nat} (h : ReaderAt W br s p) : W.cell? ⟨br, 1, none⟩ = some (.int .i64 (p : Int)) := by rw [cell_of_row W _ _ _ _ _ h]; rfl
theorem left_any (br : Nat) (s : ByteArray) (p : Nat) (w : World) (hr : ReaderAt w br s p) (hs : s.size ≤ 137438953472) (hp : p ≤ 8 * s.size) :
    Calls Tryd.prog 33 #[.pointer (some ⟨br, 0, none⟩)] w fun e w' => e = .returned (.int .i64 ((8 * s.size - p : Nat) : Int)) ∧ ∃ n, w.drewN n = w' := by
  have h0 := hr.f0
  have h1 := hr.f1
  clear hr
  have q1 : IntKind.i64.wrap (s.size : Int) = (s.size : Int) := IntWalk.i64_in _ (by omega)
  have q2 : IntKind.i64.wrap ((s.size : Int) * 8) = (s.size : Int) * 8 := IntWalk.i64_in _ (by omega)
  have q3 : IntKind.i64.wrap ((s.size : Int) * 8 - (p : Int)) = (s.size : Int) * 8 - (p : Int) := IntWalk.i64_in _ (by omega)
  go_enter Tryd.func33, Tryd.ntmps33
  go_wp2_with fail
  go_quiet (fail)
  go_wp2
  go_ret
  refine ⟨?_, _, rfl⟩
  rw [show ((8 * s.size - p : Nat) : Int) = (s.size : Int) * 8 - (p : Int) by omega]
  rfl
/-- What is so behind a get: the reader is at p; all else that was there is as it was. -/
structure Read (w : World) (br : Nat) (s : ByteArray) (p : Nat) (w' : World) : Prop where
  rd : ReaderAt w' br s p
  size : w.heap.size ≤ w'.heap.size
  os : w'.os = w.os
  tape : w'.tape = w.tape
  output : w'.output = w.output
  old : ∀ k, k < w.heap.size → k ≠ br → w'.heap[k]? = w.heap[k]?
/-- What stands in memory while bits are got. -/
structure GetMem (h br : Nat) (s : ByteArray) (w0 W : World) (f m p acc : Nat) : Prop where
  c0 : W.heap[h]? = some (.cells #[.pointer (some ⟨br, 0, none⟩)] 41 (0, 0))
  c1 : W.heap[h + 1]? = some (.cells #[.int .u64 (acc : Int)] 29 (0, 0))
  c2 : W.heap[h + 1 + 1]? = some (.cells #[.int .i64 (f : Int)] 3 (0, 0))
  c3 : W.heap[h + 1 + 1 + 1]? = some (.cells #[.int .i64 (m : Int)] 3 (0, 0))
  bound : f + m ≤ 1099511627776
  m64 : m ≤ 64
  rd : ReaderAt W br s p
  size : h + 4 ≤ W.heap.size
  os : W.os = w0.os
  tape : W.tape = w0.tape
  output : W.output = w0.output
  old : ∀ k, k < h → k ≠ br → W.heap[k]? = w0.heap[k]?
theorem GetMem.own {h br : Nat} {s : ByteArray} {w0 W : World} {f m p acc : Nat} (q : GetMem h br s w0 W f m p acc) : pcOwn (h + 1 + 1) (h + 1 + 1 + 1) (f, m) W :=
  ⟨q.bound, q.m64, by rw [cell_of_row W _ _ _ _ _ q.c2]; rfl, frozen_of_row W _ _ _ _ q.c2, by rw [cell_of_row W _ _ _ _ _ q.c3]; rfl, frozen_of_row W _ _ _ _ q.c3⟩
theorem GetMem.putObj {h br : Nat} {s : ByteArray} {w0 W : World} {f m p acc l : Nat} {o : Obj} (o' : Obj) (q : GetMem h br s w0 W f m p acc) (hl : W.heap[l]? = some o) (hlo : h ≤ l) (ho : o.isCells = false) : GetMem h br s w0 (W.putObj l o') f m p acc :=
  ⟨putObj_cells q.c0 hl ho, putObj_cells q.c1 hl ho, putObj_cells q.c2 hl ho, putObj_cells q.c3 hl ho, q.bound, q.m64, putObj_cells q.rd hl ho, by simp; exact q.size, q.os, q.tape, q.output,
    fun k hk h1 => (World.putObj_heap_other (by omega)).trans (q.old k hk h1)⟩
theorem GetMem.stepped {h br : Nat} {s : ByteArray} {w0 W : World} {st : Nat × Nat} {p acc : Nat} (q : GetMem h br s w0 W st.1 st.2 p acc) (hbr : br < h) : GetMem h br s w0 (pcStepped (h + 1 + 1) (h + 1 + 1 + 1) st W) (pcNext st).1 (pcNext st).2 p acc := by
  have hs1 : take st ≤ st.2 := by unfold take; omega
  have e3 : (W.setCell ⟨h + 1 + 1, 0, none⟩ (.int .i64 (((pcNext st).1 : Nat) : Int))).heap[h + 1 + 1]? = some (.cells #[.int .i64 (((pcNext st).1 : Nat) : Int)] 3 (0, 0)) := heap_setCell_same W _ 0 _ _ _ q.c2
  have o3 : ∀ k, k ≠ h + 1 + 1 → (W.setCell ⟨h + 1 + 1, 0, none⟩ (.int .i64 (((pcNext st).1 : Nat) : Int))).heap[k]? = W.heap[k]? := fun k hk => heap_setCell_other W _ k _ hk
  have e4 : (pcStepped (h + 1 + 1) (h + 1 + 1 + 1) st W).heap[h + 1 + 1 + 1]? = some (.cells #[.int .i64 (((pcNext st).2 : Nat) : Int)] 3 (0, 0)) :=
    heap_setCell_same (W.setCell ⟨h + 1 + 1, 0, none⟩ (.int .i64 (((pcNext st).1 : Nat) : Int))) _ 0 _ _ _ ((o3 _ (by omega)).trans q.c3)
  have o4 : ∀ k, k ≠ h + 1 + 1 → k ≠ h + 1 + 1 + 1 → (pcStepped (h + 1 + 1) (h + 1 + 1 + 1) st W).heap[k]? = W.heap[k]? := fun k h1 h2 =>
    (heap_setCell_other (W.setCell ⟨h + 1 + 1, 0, none⟩ (.int .i64 (((pcNext st).1 : Nat) : Int))) _ k _ h2).trans (o3 k h1)
  refine ⟨(o4 _ (by omega) (by omega)).trans q.c0, (o4 _ (by omega) (by omega)).trans q.c1, ?_, e4, ?_, ?_, (o4 _ (by omega) (by omega)).trans q.rd, ?_, q.os, q.tape, q.output, fun k hk h1 => (o4 k (by omega) (by omega)).trans (q.old k hk h1)⟩
  · exact (heap_setCell_other (W.setCell ⟨h + 1 + 1, 0, none⟩ (.int .i64 (((pcNext st).1 : Nat) : Int))) _ _ _ (by simp)).trans e3
  · have := q.bound; unfold pcNext; simp only []; omega
  · have := q.m64; unfold pcNext; simp only []; omega
  · have := q.size; simp [pcStepped, World.setCell]; omega
/-- A round's two stores. -/
theorem GetMem.close {h br : Nat} {s : ByteArray} {w0 W : World} {f m p acc acc' t : Nat} (q : GetMem h br s w0 W f m p acc) (hbr : br < h) :
    GetMem h br s w0 ((W.setCell ⟨h + 1, 0, none⟩ (.int .u64 (acc' : Int))).setCell ⟨br, 1, none⟩ (.int .i64 ((p : Int) + (t : Int)))) f m (p + t) acc' := by
  have e1 : (W.setCell ⟨h + 1, 0, none⟩ (.int .u64 (acc' : Int))).heap[h + 1]? = some (.cells #[.int .u64 (acc' : Int)] 29 (0, 0)) := heap_setCell_same W _ 0 _ _ _ q.c1
  have o1 : ∀ k, k ≠ h + 1 → (W.setCell ⟨h + 1, 0, none⟩ (.int .u64 (acc' : Int))).heap[k]? = W.heap[k]? := fun k hk => heap_setCell_other W _ k _ hk
  have o3 : ∀ k, k ≠ br → ((W.setCell ⟨h + 1, 0, none⟩ (.int .u64 (acc' : Int))).setCell ⟨br, 1, none⟩ (.int .i64 ((p : Int) + (t : Int)))).heap[k]? = (W.setCell ⟨h + 1, 0, none⟩ (.int .u64 (acc' : Int))).heap[k]? := fun k h2 =>
    heap_setCell_other (W.setCell ⟨h + 1, 0, none⟩ (.int .u64 (acc' : Int))) _ k _ h2
  refine ⟨(o3 _ (by omega)).trans ((o1 _ (by omega)).trans q.c0), (o3 _ (by omega)).trans e1, (o3 _ (by omega)).trans ((o1 _ (by omega)).trans q.c2), (o3 _ (by omega)).trans ((o1 _ (by omega)).trans q.c3), q.bound, q.m64, ?_, by have := q.size; simp [World.setCell]; exact this, q.os, q.tape, q.output,
    fun k hk h1 => (o3 k h1).trans ((o1 k (by omega)).trans (q.old k hk h1))⟩
  have e := heap_setCell_same (W.setCell ⟨h + 1, 0, none⟩ (.int .u64 (acc' : Int))) br 1 _ _ (.int .i64 ((p : Int) + (t : Int))) ((o1 _ (by omega)).trans q.rd)
  unfold ReaderAt
  rw [e]
  simp
theorem GetMem.drewN {h br : Nat} {s : ByteArray} {w0 W : World} {f m p acc : Nat} (q : GetMem h br s w0 W f m p acc) (n : Nat) : GetMem h br s w0 (W.drewN n) f m p acc :=
  ⟨q.c0, q.c1, q.c2, q.c3, q.bound, q.m64, q.rd, q.size, q.os, q.tape, q.output, q.old⟩
theorem within_within (n : Int) : within ((within n : Nat) : Int) = within n := by unfold within; omega
theorem acc_val (a b t : Nat) (ht : a * 2 ^ t < 18446744073709551616) (hb : b < 2 ^ t) (hb2 : b < 256) : bits BinOp.or IntKind.u64 (IntKind.u64.wrap ((a : Int) * 2 ^ t)) (IntKind.u64.wrap (b : Int)) = ((a * 2 ^ t + b : Nat) : Int) := by
  have e1 : ((a : Int) * 2 ^ t) = ((a * 2 ^ t : Nat) : Int) := by simp
  rw [e1, IntWalk.u64_in _ (by omega), IntWalk.u64_in _ (by omega), u64_or_nat _ _ ht (by omega), Nat.mul_comm, ← Nat.two_pow_add_eq_or_of_lt hb]
theorem part_got (s : ByteArray) (f t pc : Nat) (x : UInt8) (hx : s.data.toList[f / 8]? = some x) (hpc : pc = x.toNat * 2 ^ (f % 8) % 256 / 2 ^ (8 - t)) {hi : f / 8 < s.size} : (((s[f / 8]'hi).toNat : Int) * 2 ^ (f % 8) % 256 / 2 ^ (8 - t)) = (pc : Int) := by
  have e : s[f / 8]'hi = x := by
    have h1 := (List.getElem?_eq_some_iff.1 hx).2
    rw [← h1]
    simp [ByteArray.getElem_eq_getElem_data]
  rw [e, hpc]
  simp
def getTmps (h br : Nat) (n N p L : Int) (x7 x8 x22 x23 : Value) : Array Value := #[.pointer (some ⟨br, 0, none⟩), .int .i64 N, .pointer (some ⟨h, 0, none⟩), undef, .int .u64 0, .bool false, .pointer (some ⟨h + 1, 0, none⟩), x7, x8, undef, .int .i64 n, .int .i64 N, .int .i64 N, .pointer (some ⟨br, 0, none⟩), .int .i64 L, .bool false, .pointer (some ⟨br, 0, none⟩), .pointer (some ⟨br, 0, none⟩), .pointer (some ⟨br, 1, none⟩), .int .i64 p, .int .i64 N, .func (.func 47) #[] #[.pointer (some ⟨h + 1 + 1 + 1, 0, none⟩), .pointer (some ⟨h + 1 + 1, 0, none⟩)], x22, x23, undef, undef, undef, undef, undef, undef, undef, undef, undef, undef, undef, undef, undef, undef, undef, undef, undef, undef, undef, undef, undef, undef, undef, undef, undef, undef, undef, undef, undef, undef]
set_option maxRecDepth 100000 in
set_option maxHeartbeats 1000000 in
/-- More than is left is not got. -/
theorem get_none (br : Nat) (s : ByteArray) (p : Nat) (n : Int) (w : World) (hr : ReaderAt w br s p) (hs : s.size ≤ 137438953472) (hp : p ≤ 8 * s.size) (hn : 8 * s.size < p + within n) :
    Calls Tryd.prog 34 #[.pointer (some ⟨br, 0, none⟩), .int .i64 n] w fun e w' => e = .returned (.tuple #[.int .u64 0, .bool false]) ∧ Read w br s p w' := by
  have hlt : br < w.heap.size := (Array.getElem?_eq_some_iff.1 hr).1
  have hrd : ReaderAt (w.alloc (.cells #[.pointer (some ⟨br, 0, none⟩)] 41)) br s p := (Below.heap_alloc _ _ _ hlt).trans hr
  have hgt : (((8 * s.size - p : Nat) : Int) < ((within n : Nat) : Int)) := by omega
  have HR := Lib.hid hr
  have HP := Lib.hid (And.intro hs hp)
  have HRD := Lib.hid hrd
  clear hr hs hp hn hrd
  generalize hL : 8 * s.size - p = L at *
  go_enter Tryd.func34, Tryd.ntmps34
  go_wp2_with (first | (go_at_call 43; refine (within_any _ _).mono ?_; rintro e w' ⟨rfl, rfl⟩) | (go_at_call 33; refine (left_any br s p _ HRD.out HP.out.1 HP.out.2).mono ?_; rintro e w' ⟨rfl, nq, rfl⟩; rw [hL]))
  go_ret2
  refine ⟨?_, (Below.heap_alloc _ _ _ hlt).trans HR.out, by simp [World.drewN], rfl, rfl, rfl, fun k hk _ => Below.heap_alloc _ _ _ hk⟩
  rfl
set_option maxRecDepth 100000 in
set_option maxHeartbeats 1000000 in
theorem get_some (br : Nat) (s : ByteArray) (p : Nat) (n : Int) (w : World) (hr : ReaderAt w br s p) (hs : s.size ≤ 68719476736) (hn : p + within n ≤ 8 * s.size) :
    Calls Tryd.prog 34 #[.pointer (some ⟨br, 0, none⟩), .int .i64 n] w fun e w' => e = .returned (.tuple #[.int .u64 ((numB (((unpack s.data.toList).drop p).take (within n)) : Nat) : Int), .bool true]) ∧ Read w br s (p + within n) w' := by
  have hlt : br < w.heap.size := (Array.getElem?_eq_some_iff.1 hr).1
  have hrd : ReaderAt (w.alloc (.cells #[.pointer (some ⟨br, 0, none⟩)] 41)) br s p := (Below.heap_alloc _ _ _ hlt).trans hr
  have hgt : ¬ (((8 * s.size - p : Nat) : Int) < ((within n : Nat) : Int)) := by omega
  have f1 := hr.f1
  have HR := Lib.hid hr
  have HP := Lib.hid (show s.size ≤ 137438953472 ∧ p ≤ 8 * s.size by omega)
  have HN := Lib.hid (show s.size ≤ 68719476736 ∧ p + within n ≤ 8 * s.size from ⟨hs, hn⟩)
  have HRD := Lib.hid hrd
  clear hr hs hn hrd
  have n1 : br < w.heap.size + 1 := by omega
  have n2 : br < w.heap.size + 1 + 1 := by omega
  generalize hL : 8 * s.size - p = L at *
  refine (callsIn_wide (n := 3)).1 ?_
  refine callsIn_of_wp_marks Tryd.func34 rfl trivial ?_ rfl
  simp only [Tryd.ntmps34, List.size_toArray, List.length_cons, List.length_nil, Nat.reduceAdd, Nat.reduceSub, Array.replicate_succ, Array.replicate_zero, List.push_toArray, List.append_toArray, List.nil_append, List.cons_append]
  gi_wp2_with (first | (gi_at_call 43; refine (callsIn_wide.2 (within_any _ _)).mono ?_; rintro e w' ⟨rfl, rfl⟩) | (gi_at_call 44; refine (callsIn_wide.2 (pieces_any _ _ _)).mono ?_; rintro e w' ⟨rfl, rfl⟩) | (gi_at_call 33; refine (callsIn_wide.2 (left_any br s p _ HRD.out HP.out.1 HP.out.2)).mono ?_; rintro e w' ⟨rfl, nq, rfl⟩; rw [hL]))
  obtain ⟨h, hh⟩ : ∃ h, w.heap.size = h := ⟨_, rfl⟩
  rw [hh]
  have hboth : ∃ w5 : World, (((((w.alloc (.cells #[.pointer (some ⟨br, 0, none⟩)] 41)).drewN nq).alloc (.cells #[.int .u64 0] 29)).alloc (.cells #[.int .i64 (p : Int)] 3)).alloc (.cells #[.int .i64 (within n : Nat)] 3)) = w5 ∧ w5.heap.size = h + 4 ∧
      w5.heap[h]? = some (.cells #[.pointer (some ⟨br, 0, none⟩)] 41 (0, 0)) ∧ w5.heap[h + 1]? = some (.cells #[.int .u64 0] 29 (0, 0)) ∧ w5.heap[h + 1 + 1]? = some (.cells #[.int .i64 (p : Int)] 3 (0, 0)) ∧
      w5.heap[h + 1 + 1 + 1]? = some (.cells #[.int .i64 (within n : Nat)] 3 (0, 0)) ∧ (∀ i, i < h → w5.heap[i]? = w.heap[i]?) ∧ w5.os = w.os ∧ w5.tape = w.tape ∧ w5.output = w.output := by
    have zd : ∀ (o : Obj), ((w.alloc o).drewN nq).heap.size = h + 1 := fun o => by simp [World.drewN, hh]
    refine ⟨_, rfl, by simp [World.drewN, hh], ?_, ?_, ?_, ?_, ?_, rfl, rfl, rfl⟩
    · rw [heap_past _ _ (by simp; omega), heap_past _ _ (by simp; omega), heap_past _ _ (by rw [zd]; omega)]
      exact heap_at _ _ hh.symm
    · rw [heap_past _ _ (by simp; omega), heap_past _ _ (by simp; omega), heap_at _ _ (by simp [World.drewN, hh])]
    · rw [heap_past _ _ (by simp; omega), heap_at _ _ (by simp [World.drewN, hh])]
    · rw [heap_at _ _ (by simp [World.drewN, hh])]
    · intro i hi
      rw [heap_past _ _ (by simp; omega), heap_past _ _ (by simp; omega), heap_past _ _ (by rw [zd]; omega)]
      exact heap_past _ _ (by omega)
  obtain ⟨w5, hw5, z5, g0, g1, g2, g3, gold, gos, gtape, gout⟩ := hboth
  rw [hw5]
  rw [hh] at n1 n2 hlt
  clear hw5 f1
  obtain ⟨B, hB⟩ : ∃ B, unpack s.data.toList = B := ⟨_, rfl⟩
  have hBl : B.length = 8 * s.size := by rw [← hB, unpack_length]; simp
  refine wpIn_rangeFunc_st (σ := Nat × Nat) (gf := 47) (lb := #[.pointer (some ⟨h + 1 + 1 + 1, 0, none⟩), .pointer (some ⟨h + 1 + 1, 0, none⟩)]) rfl (enters_of Tryd.func47 (by kernel_rfl) rfl)
    (pieces_iter (h + 1 + 1) (h + 1 + 1 + 1) p ((within n : Nat) : Int) (by omega)) (fun _ => rfl) (fun W => KeepsNon.setCell _ _ _ _) (fun s W => (KeepsNon.setCell _ _ _ _).trans (KeepsNon.setCell _ _ _ _))
    (fun q W => q.1 + q.2 = p + within n ∧ p ≤ q.1 ∧ GetMem h br s w W q.1 q.2 q.1 (numB ((B.drop p).take (q.1 - p))))
    (fun q W => q.1 + q.2 = p + within n ∧ p ≤ q.1 ∧ GetMem h br s w W q.1 q.2 (pcNext q).1 (numB ((B.drop p).take ((pcNext q).1 - p))))
    ?own ?own' ?step ?hI ?hI' ?begins ?start (fun q => { tmps := getTmps h br n (within n : Nat) p L (.int .i64 ((q.1 % 8 : Nat) : Int)) (.int .i64 ((take q : Nat) : Int)) (.int .i64 ((q.1 % 8 : Nat) : Int)) (.int .i64 ((take q : Nat) : Int)), defers := [] }) ?assign ?body ?done
  case own => rintro q W ⟨-, -, hp⟩; exact hp.own
  case own' => rintro q W ⟨-, -, hp⟩; exact hp.own
  case step =>
    rintro q W hm ⟨h1, h2, hp⟩
    have ht : take q ≤ q.2 := by unfold take; omega
    refine ⟨?_, ?_, hp.stepped hlt⟩
    · unfold pcNext; simp only []; omega
    · unfold pcNext; simp only []; omega
  case hI =>
    rintro q W l o o' ⟨h1, h2, hp⟩ hlo hl ho
    exact ⟨h1, h2, hp.putObj o' hl (by omega) ho⟩
  case hI' =>
    rintro q W l o o' ⟨h1, h2, hp⟩ hlo hl ho
    exact ⟨h1, h2, hp.putObj o' hl (by omega) ho⟩
  case begins =>
    intro o1 o2
    have e : ((w5.alloc o1).alloc o2).heap[h + 1 + 1 + 1]? = some (.cells #[.int .i64 (within n : Nat)] 3 (0, 0)) := by
      rw [Below.heap_alloc _ _ _ (by simp; omega), Below.heap_alloc _ _ _ (by omega)]; exact g3
    exact ⟨by rw [cell_of_row _ _ _ _ _ _ e]; rfl, frozen_of_row _ _ _ _ _ e⟩
  case start =>
    intro o1 o2 h1 h2
    have ea : ∀ i, i < h + 4 → ((w5.alloc o1).alloc o2).heap[i]? = w5.heap[i]? := fun i hi => by
      rw [Below.heap_alloc _ _ _ (by simp; omega), Below.heap_alloc _ _ _ (by omega)]
    have ez : ((w5.alloc o1).alloc o2).heap.size = h + 6 := by simp; omega
    have es : ((w5.alloc o1).alloc o2).os = w.os ∧ ((w5.alloc o1).alloc o2).tape = w.tape ∧ ((w5.alloc o1).alloc o2).output = w.output := ⟨gos, gtape, gout⟩
    generalize (w5.alloc o1).alloc o2 = w7 at ea ez es
    have eo : ∀ i, i ≠ h + 1 + 1 + 1 → (pcBegun (h + 1 + 1 + 1) ((within n : Nat) : Int) w7).heap[i]? = w7.heap[i]? := fun i hi => heap_setCell_other _ _ _ _ hi
    have eb : ∀ i, i < h → (pcBegun (h + 1 + 1 + 1) ((within n : Nat) : Int) w7).heap[i]? = w.heap[i]? := fun i hi => by rw [eo i (by omega), ea i (by omega), gold i hi]
    have hn := HN.out
    refine ⟨by simp only [within_within], Nat.le_refl _, ?_, ?_, ?_, ?_, ?_, ?_, ?_, ?_, es.1, es.2.1, es.2.2, fun i hi _ => eb i hi⟩
    · rw [eo _ (by omega), ea _ (by omega), g0]
    · rw [eo _ (by omega), ea _ (by omega), g1]; simp [numB]
    · rw [eo _ (by omega), ea _ (by omega), g2]
    · exact heap_setCell_same w7 _ 0 _ _ _ ((ea _ (by omega)).trans g3)
    · have := within_le n; simp only [within_within]; omega
    · have := within_le n; simp only [within_within]; omega
    · exact (eb _ hlt).trans HR.out
    · have : (pcBegun (h + 1 + 1 + 1) ((within n : Nat) : Int) w7).heap.size = w7.heap.size := by simp [pcBegun, World.setCell]
      omega
  case assign =>
    intro l m s W K hK
    unfold pcEncs
    unfold getTmps at hK
    gi_wp2
    exact hK
  case body =>
    rintro l mm ⟨f, m⟩ W hm ⟨h1, h2, hp⟩
    have hpos : 0 < m := hm
    have hp0 : GetMem h br s w W f m f (numB ((B.drop p).take (f - p))) := hp
    have h1' : f + m = p + within n := h1
    have h2' : p ≤ f := h2
    have ht0 : 0 < take (f, m) := by unfold take; simp only []; omega
    have ht1 : take (f, m) ≤ m := by unfold take; simp only []; omega
    have ht2 : f % 8 + take (f, m) ≤ 8 := by unfold take; simp only []; omega
    have hnext : pcNext (f, m) = (f + take (f, m), m - take (f, m)) := rfl
    have hlen := hp0.bound
    have hm64 := hp0.m64
    have hN := HN.out
    have hN64 := within_le n
    generalize htk : take (f, m) = t at *
    unfold getTmps
    have hsl : s.data.toList.length = s.size := by simp
    have hlx : f / 8 < s.data.toList.length := by omega
    obtain ⟨x, hx⟩ : ∃ x, s.data.toList[f / 8]? = some x := ⟨_, List.getElem?_eq_getElem hlx⟩
    have hpc := unpack_piece s.data.toList f t x ht2 hx
    rw [hB] at hpc
    have hacc := numB_got B p (f - p) t (by omega)
    rw [show p + (f - p) = f by omega, show f - p + t = f + t - p by omega] at hacc
    have hplt := numB_take_lt (B.drop f) t
    have halt : numB ((B.drop p).take (f - p)) * 2 ^ t < 18446744073709551616 := by
      have a1 := numB_take_lt (B.drop p) (f - p)
      have a2 : numB ((B.drop p).take (f - p)) * 2 ^ t < 2 ^ (f - p) * 2 ^ t := Nat.mul_lt_mul_of_pos_right a1 (Nat.two_pow_pos _)
      rw [← Nat.pow_add] at a2
      have a3 : (2 : Nat) ^ (f - p + t) ≤ 2 ^ 64 := Nat.pow_le_pow_right (by omega) (by omega)
      exact Nat.lt_of_lt_of_le a2 a3
    generalize hA : numB ((B.drop p).take (f - p)) = A at *
    generalize hP : numB ((B.drop f).take t) = pc at *
    have hgoal : ∀ nq : Nat, KeepsNon w5.heap.size W (((W.drewN nq).setCell ⟨h + 1, 0, none⟩ (.int .u64 ((A * 2 ^ t + pc : Nat) : Int))).setCell ⟨br, 1, none⟩ (.int .i64 ((f : Int) + (t : Int)))) ∧
        (f + m = p + within n ∧ p ≤ f ∧ GetMem h br s w (((W.drewN nq).setCell ⟨h + 1, 0, none⟩ (.int .u64 ((A * 2 ^ t + pc : Nat) : Int))).setCell ⟨br, 1, none⟩ (.int .i64 ((f : Int) + (t : Int)))) f m (pcNext (f, m)).1 (numB ((B.drop p).take ((pcNext (f, m)).1 - p)))) := by
      intro nq
      rw [hnext]
      simp only []
      rw [hacc]
      exact ⟨((KeepsNon.drewN _ _ _).trans (KeepsNon.setCell _ _ _ _)).trans (KeepsNon.setCell _ _ _ _), h1', h2', (hp0.drewN nq).close hlt⟩
    have HG := Lib.hid hgoal
    have C0 : W.cell? ⟨h, 0, none⟩ = some (.pointer (some ⟨br, 0, none⟩)) := by rw [cell_of_row W _ _ _ _ _ hp0.c0]; rfl
    have C1 : W.cell? ⟨h + 1, 0, none⟩ = some (.int .u64 (A : Int)) := by rw [cell_of_row W _ _ _ _ _ hp0.c1]; rfl
    have F1 : W.frozen? ⟨h + 1, 0, none⟩ = false := frozen_of_row W _ _ _ _ hp0.c1
    have B0 := hp0.rd.f0
    have B1 := hp0.rd.f1
    have F2 : W.frozen? ⟨br, 1, none⟩ = false := frozen_of_row W _ _ _ _ hp0.rd
    have HX := Lib.hid hx
    have HPC := Lib.hid hpc
    have HLT := Lib.hid (And.intro hplt halt)
    have hix : (f : Int) / 8 < (s.size : Int) := by omega
    have hix0 : (0 : Int) ≤ (f : Int) / 8 := by omega
    clear hgoal hx hpc hplt halt hacc hlx hA hP hnext htk g0 g1 g2 g3 gold h1 h2 hp hp0 hm hN h1' h2'
    gi_wp2_with fail
    refine wpIn_round_quiet' (by kernel_rfl) (by kernel_rfl) (by kernel_rfl) ?_
    repeat (go_big_quiet_step (fail))
    refine wpQuiet_nil ?_
    intro _ hw'
    obtain ⟨nq2, hw''⟩ := hw'
    subst hw''
    rw [part_got s f t pc x HX.out HPC.out]
    have hpc8 : pc < 256 := by
      have a1 := HLT.out.1
      have a2 : (2 : Nat) ^ t ≤ 2 ^ 8 := Nat.pow_le_pow_right (by omega) (by omega)
      omega
    have HE := Lib.hid (HG.out nq2)
    have HT8 := Lib.hid hpc8
    clear HG hpc8
    gi_wp2
    rw [acc_val A pc t HLT.out.2 HLT.out.1 HT8.out]
    exact HE.out
  case done =>
    rintro D ⟨f, m⟩ W hD hm ⟨h1, h2, hp⟩ hK
    obtain rfl : m = 0 := by unfold pcMore at hm; omega
    have hp2 := hp.putObj (.deferred none) hK (by omega) rfl
    have hf : f = p + within n := h1
    subst hf
    have C1 := hp.c1
    simp only [Nat.add_sub_cancel_left] at C1
    have D1 : W.cell? ⟨h + 1, 0, none⟩ = some (.int .u64 ((numB ((B.drop p).take (within n)) : Nat) : Int)) := by rw [cell_of_row _ _ _ _ _ _ C1]; rfl
    have hfin : Read w br s (p + within n) (W.putObj D (.deferred none)) := ⟨hp2.rd, by have := hp2.size; omega, hp2.os, hp2.tape, hp2.output, fun i hi => hp2.old i (by omega)⟩
    have HF := Lib.hid hfin
    have HB := Lib.hid hB
    clear hfin hp hp2 h1 h2 hB C1
    gi_wp2
    refine ⟨by simp, .inl ⟨_, _, rfl, run_takeDeferred hK, ?_⟩⟩
    refine ⟨_, results_tmp2 rfl _ _ _, ?_, HF.out⟩
    rw [HB.out]
    rfl
end Go.Proofs.YtboomamnenonoaaDoor.BitsW
