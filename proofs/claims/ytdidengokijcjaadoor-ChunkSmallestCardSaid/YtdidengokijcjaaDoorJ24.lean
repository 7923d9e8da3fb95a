/-
  num.Wide, Zig, Zag: THE WALKS.
  chunk.putWide: THE WALK.
  chunk.putSmall: THE WALK.
  chunk.putBits: THE WALK.
-/
import Derived.Test.YtdidengokijcjaaDoorJ23
import Derived.Test.YtdidengokijcjaaDoorJ13
import Derived.Laws.Bits64b
import Derived.Test.YtdidengokijcjaaDoorJ14
import Derived.Deep.RegionHeld3
import Derived.Test.YtdidengokijcjaaDoorJ12
import Derived.Test.YtdidengokijcjaaDoorJ18
/-
  num.Wide, Zig, Zag: THE WALKS.
-/
namespace Go.Proofs.YtdidengokijcjaaDoor.ChW
set_option linter.unusedVariables false
open Go.RowKit FrM FrW StM ChM
/-- The first bytes of a row of eight. -/
def Has8 (cs : Array Value) (pre : List UInt8) : Prop := cs.size = 8 ∧ ∀ j (h : j < pre.length), cs[j]? = some (.int .u8 ((pre[j]'h).toNat : Int))
theorem Has8.set {cs : Array Value} {pre : List UInt8} (h : Has8 cs pre) (hl : pre.length < 8) (b : UInt8) {i : Nat} (hi : pre.length = i) : Has8 (cs.setIfInBounds i (.int .u8 (b.toNat : Int))) (pre ++ [b]) := by
  subst hi
  refine ⟨by simp [h.1], fun j hj => ?_⟩
  by_cases e : j = pre.length
  · subst e
    rw [Array.getElem?_setIfInBounds_self_of_lt (by rw [h.1]; omega)]
    simp
  · have hj2 : j < pre.length := by rw [List.length_append, List.length_singleton] at hj; omega
    rw [Array.getElem?_setIfInBounds_ne (by omega), h.2 j hj2, List.getElem_append_left]
theorem eight_len : Tryd.prog.arrayLen 98 = 8 := by kernel_rfl
theorem eight_under : Tryd.prog.underlying 98 = some (.array (Tryd.prog.arrayLen 98) (Tryd.prog.elem 98)) := by kernel_rfl
theorem eight_size : Tryd.prog.elem 98 = 5 := by kernel_rfl
set_option maxRecDepth 20000 in
set_option maxHeartbeats 2000000 in
theorem wide_any (n : Nat) (w : World) (hn : n < 18446744073709551616) :
    Calls Tryd.prog 51 #[.int .u64 (n : Int)] w fun e w' => e = .returned (.string (bs (wide n))) ∧ Below w.heap.size w w' := by
  have HN := Lib.hid hn
  obtain ⟨S, hS⟩ : ∃ S, wide n = S := ⟨_, rfl⟩
  rw [hS]
  have HS := Lib.hid hS
  clear hS
  go_enter Tryd.func51, Tryd.ntmps51
  go_wp2_with fail
  go_loopw [4, 5] (fun _ v5 wr => ∃ (i : Nat) (cs : Array Value) (pre : List UInt8), i ≤ 8 ∧ v5 = .int .i64 i ∧ pre.length = i ∧ S = pre ++ wdg (8 - i) (n / 256 ^ i) ∧ Has8 cs pre ∧ Below w.heap.size w wr ∧ wr.heap[w.heap.size]? = some (.cells cs 98 (0, 0))) (fun _ v5 _ => 8 - (intOf v5).toNat)
  case atStart =>
    exact ⟨0, _, [], by omega, rfl, rfl, by rw [Nat.pow_zero, Nat.div_one]; exact HS.out.symm, ⟨rfl, fun j h => by simp at h⟩, (Below.refl _ _).alloc (Nat.le_refl _) _, heap_alloc_new w _⟩
  case round =>
    obtain ⟨i, cs, pre, hi, rfl, hpl, hpre, hb, ho, hc⟩ := hrel
    have HO := Lib.hid (And.intro ho hc)
    have HB := Lib.hid (And.intro hb (And.intro hpl hpre))
    by_cases hlt : i < 8
    · have hcell : wr.cell? ⟨w.heap.size, i, none⟩ = some cs[i]! := by
        rw [cell_of_row wr _ i cs _ _ hc]; have := hb.1; simp [show i < cs.size by omega]
      have hfro : wr.frozen? ⟨w.heap.size, i, none⟩ = false := frozen_of_row wr _ i cs _ hc
      have i0 : (0 : Int) ≤ (i : Int) := by omega
      have i1 : (i : Int) < 8 := by omega
      obtain ⟨m, hm⟩ : ∃ m, n / 256 ^ i = m := ⟨_, rfl⟩
      have hsh : (n : Int) / 2 ^ (8 * (i : Int)).toNat = (m : Int) := by
        rw [show (8 * (i : Int)).toNat = 8 * i by omega, ← hm, Int.natCast_ediv, Int.natCast_pow, show (256 : Nat) = 2 ^ 8 from rfl]
        rw [Int.natCast_pow, ← Int.pow_mul]; rfl
      obtain ⟨y, hy⟩ : ∃ y, UInt8.ofNat (m % 256) = y := ⟨_, rfl⟩
      have hyn : ((y.toNat : Nat) : Int) = (m : Int) % 256 := by rw [← hy, byte_nat _ (by omega)]; omega
      have hwd : wdg (8 - i) (n / 256 ^ i) = y :: wdg (8 - (i + 1)) (n / 256 ^ (i + 1)) := by
        rw [show 8 - i = (8 - (i + 1)) + 1 by omega, hm]
        show UInt8.ofNat (m % 256) :: wdg (8 - (i + 1)) (m / 256) = _
        rw [hy, ← hm, Nat.div_div_eq_div_mul, Nat.pow_succ]
      have HY := Lib.hid (And.intro hyn hwd)
      clear hb hpl hpre ho hc hm hy hyn hwd
      go_wp2_with fail
      go_roundw
      case rel =>
        refine ⟨i + 1, cs.setIfInBounds i (.int .u8 ((m : Int) % 256)), pre ++ [y], by omega, by go_num, by rw [List.length_append, HB.out.2.1]; rfl, ?_, ?_, HO.out.1.setCell (Nat.le_refl _) _, heap_setCell_same wr _ i cs _ _ HO.out.2⟩
        · rw [HB.out.2.2, HY.out.2]; simp
        · rw [← HY.out.1]; exact HB.out.1.set (by rw [HB.out.2.1]; omega) y HB.out.2.1
      case measure => simp [intOf]; omega
    · obtain rfl : i = 8 := by omega
      have hsl : ∀ W, (Instr.sliceAt 98 (.pointer (some ⟨w.heap.size, 0, none⟩)) none none none).run Tryd.prog W = .ok (.slice (some ⟨w.heap.size, 0, none⟩) 8 8) W := fun W => by
        rw [run_sliceAt_array_all W _ _ eight_under, eight_len, eight_size]
        simp [slicedAt, go_sem]
      have hS : S = pre := by rw [hpre]; simp [wdg]
      have hconv : (convert 46 9 (.slice (some ⟨w.heap.size, 0, none⟩) 8 8)).run Tryd.prog wr = .ok (.string (bs S)) wr := by
        have := run_convert_bytes_back (P := Tryd.prog) wr 46 9 5 ⟨w.heap.size, 0, none⟩ 8 S Tryd.underlying46 Tryd.underlying5 Tryd.underlying9 (by
          intro j hj
          have ha : (⟨w.heap.size, 0, none⟩ : Addr).add j = ⟨w.heap.size, j, none⟩ := by unfold Addr.add; split <;> simp_all
          rw [ha, cell_of_row _ _ j _ _ _ hc, hb.2 j (by rw [← hS]; exact hj)]
          simp only [hS])
        rw [show S.length = 8 by rw [hS, hpl]] at this
        exact this
      clear hb hpl hpre ho hc hS
      go_wp2_with fail
      go_ret
      exact ⟨rfl, HO.out.1⟩
theorem xor_all (a : Nat) (h : a < 18446744073709551616) : a ^^^ 18446744073709551615 = 18446744073709551615 - a := by
  have e : BitVec.ofNat 64 a ^^^ BitVec.allOnes 64 = ~~~ (BitVec.ofNat 64 a) := BitVec.xor_allOnes
  have e := congrArg BitVec.toNat e
  rw [BitVec.toNat_xor, BitVec.toNat_not, BitVec.toNat_ofNat, BitVec.toNat_allOnes, Nat.mod_eq_of_lt (by omega)] at e
  exact e
theorem zig_bits (x : Int) (h : okI x) : bits .xor .u64 (IntKind.u64.wrap (IntKind.u64.wrap x * 2)) (IntKind.u64.wrap (x / 9223372036854775808)) = (zig x : Nat) := by
  unfold okI at h
  rw [IntKind.wrap_u64, IntKind.wrap_u64, IntKind.wrap_u64]
  unfold zig
  by_cases h0 : 0 ≤ x
  · rw [if_pos h0, show x / 9223372036854775808 % 18446744073709551616 = ((0 : Nat) : Int) by omega, show x % 18446744073709551616 * 2 % 18446744073709551616 = (((2 * x).toNat : Nat) : Int) by omega, bits_xor_u64_nat _ _ (by omega) (by omega), Nat.xor_zero]
  · rw [if_neg h0, show x / 9223372036854775808 % 18446744073709551616 = ((18446744073709551615 : Nat) : Int) by omega, show x % 18446744073709551616 * 2 % 18446744073709551616 = (((2 * x + 18446744073709551616).toNat : Nat) : Int) by omega, bits_xor_u64_nat _ _ (by omega) (by omega), xor_all _ (by omega)]
    omega
theorem xor_i64 (m : Nat) (h : m < 9223372036854775808) : bits .xor .i64 (m : Int) 0 = (m : Int) ∧ bits .xor .i64 (m : Int) (-1) = -(m : Int) - 1 := by
  have e1 : (BitVec.ofInt 64 (m : Int)).toNat = m := by rw [BitVec.ofInt_natCast, BitVec.toNat_ofNat]; exact Nat.mod_eq_of_lt (by omega)
  constructor
  · show IntKind.i64.wrap (((BitVec.ofInt 64 (m : Int) ^^^ BitVec.ofInt 64 0).toNat : Nat) : Int) = _
    rw [BitVec.toNat_xor, e1, show (BitVec.ofInt 64 0).toNat = 0 from by decide, Nat.xor_zero, IntKind.wrap_i64]
    omega
  · show IntKind.i64.wrap (((BitVec.ofInt 64 (m : Int) ^^^ BitVec.ofInt 64 (-1)).toNat : Nat) : Int) = _
    rw [BitVec.toNat_xor, e1, show (BitVec.ofInt 64 (-1)).toNat = 18446744073709551615 from by decide, xor_all _ (by omega), IntKind.wrap_i64]
    omega
theorem zag_bits (n : Nat) (h : n < 18446744073709551616) : bits .xor .i64 ((n : Int) / 2) (wrap64 (-wrap64 (bits .and .u64 (n : Int) 1))) = zag n := by
  have e1 : bits .and .u64 (n : Int) 1 = ((n % 2 : Nat) : Int) := by
    have := bits_and_u64_nat n 1 h (by omega)
    rw [Nat.and_one_is_mod] at this
    exact this
  rw [e1, show (n : Int) / 2 = ((n / 2 : Nat) : Int) by omega]
  obtain ⟨x1, x2⟩ := xor_i64 (n / 2) (by omega)
  unfold zag
  rcases Nat.mod_two_eq_zero_or_one n with h0 | h0
  · rw [h0, if_pos rfl, show wrap64 (-wrap64 ((0 : Nat) : Int)) = 0 by unfold wrap64; omega, x1]
  · rw [h0, if_neg (by omega), show wrap64 (-wrap64 ((1 : Nat) : Int)) = -1 by unfold wrap64; omega, x2]
theorem ret_u64 {a b : Int} (h : a = b) : Ending.returned (.int .u64 a) = .returned (.int .u64 b) := by rw [h]
theorem ret_i64 {a b : Int} (h : a = b) : Ending.returned (.int .i64 a) = .returned (.int .i64 b) := by rw [h]
theorem zig_any (x : Int) (w : World) (h : okI x) : Calls Tryd.prog 56 #[.int .i64 x] w fun e w' => e = .returned (.int .u64 (zig x : Nat)) ∧ w = w' := by
  have h1 : -9223372036854775808 ≤ x := h.1
  have h2 : x ≤ 9223372036854775807 := h.2
  have HZ := Lib.hid (zig_bits x h)
  clear h
  go_enter Tryd.func56, Tryd.ntmps56
  go_wp2
  go_ret
  exact ⟨ret_u64 HZ.out, rfl⟩
theorem zag_any (n : Nat) (w : World) (h : n < 18446744073709551616) : Calls Tryd.prog 59 #[.int .u64 (n : Int)] w fun e w' => e = .returned (.int .i64 (zag n)) ∧ w = w' := by
  have HZ := Lib.hid (zag_bits n h)
  go_enter Tryd.func59, Tryd.ntmps59
  go_wp2
  go_ret
  exact ⟨ret_i64 HZ.out, rfl⟩
end Go.Proofs.YtdidengokijcjaaDoor.ChW
/-
  chunk.putWide: THE WALK.
-/
namespace Go.Proofs.YtdidengokijcjaaDoor.ChW
set_option linter.unusedVariables false
open Go.RowKit FrM FrW StM ChM LabW
theorem ok_of {x : Sm} (h : okS x) : ChM.okM x := ⟨⟨h.1, h.2.1⟩, h.2.2.1, h.2.2.2⟩
theorem u64_wr (x : Int) : IntKind.u64.wrap x = ((u64 x : Nat) : Int) := by rw [IntKind.wrap_u64, u64_cast]
theorem wS_at (l : List Sm) (k : Nat) (h : k < l.length) : wS (l.drop k) = wide (u64 l[k].1) ++ wide l[k].2.toNat ++ wS (l.drop (k + 1)) := by
  rw [List.drop_eq_getElem_cons h, wS]
set_option maxRecDepth 20000 in
set_option maxHeartbeats 4000000 in
theorem putWide_any (w0 w : World) (b : Nat) (A : Option Addr) (n c : Nat) (l : List Sm) (hl : Comes w0 2 encS okS A n c l) (hn : n ≤ 1000) (h0 : Below w0.heap.size w0 w) (hbd : Bd w0.heap.size b [] w) :
    Calls Tryd.prog 36 #[.pointer (some ⟨b, 0, none⟩), .slice A n c] w fun e w' => e = .returned (.tuple #[]) ∧ Bd w0.heap.size b (wide l.length ++ wS l) w' ∧ Below w0.heap.size w0 w' := by
  have HL := Lib.hid hl
  have hcap : c ≤ 9223372036854775807 := hl.cap
  have hle := hl.le
  obtain ⟨S, hS⟩ : ∃ S, wide l.length ++ wS l = S := ⟨_, rfl⟩
  rw [hS]
  have HK := Lib.hid hS
  have hwl := wide_len l.length
  have CN : Hid (∀ W : World, Calls Tryd.prog 51 #[.int .u64 (n : Int)] W fun e w' => e = .returned (.string (bs (wide l.length))) ∧ Below W.heap.size W w') := Lib.hid (fun W => by rw [hl.len]; exact wide_any n W (by omega))
  have CW0 := Lib.hid (fun (W : World) (hb : Below w.heap.size w W) => writes_any w0.heap.size b [] (wide l.length) W (hbd.later hb) (by rw [hwl]; decide) (Nat.le_trans h0.size hb.size))
  have H0 := Lib.hid h0
  obtain ⟨M, hM⟩ : ∃ M, bs (wide l.length) = M := ⟨_, rfl⟩
  obtain ⟨pre, hpre⟩ : ∃ p, wide l.length = p := ⟨_, rfl⟩
  rw [hM] at CN CW0
  rw [hpre] at CW0 HK hwl
  clear hl hS hM hpre hbd h0
  go_enter Tryd.func36, Tryd.ntmps36
  go_wp2_with fail
  refine (CN.out _).mono ?_
  rintro e w1 ⟨rfl, hb1⟩
  have HB1 := Lib.hid hb1
  clear hb1 CN
  go_wp2_with fail
  refine (CW0.out _ HB1.out).mono ?_
  rintro e w2 ⟨rfl, hbd2, hb2, hk2⟩
  rw [List.nil_append] at hbd2
  have H2 := Lib.hid (And.intro hbd2 ((H0.out.trans (HB1.out.mono H0.out.size)).trans hb2))
  clear hbd2 hb2 hk2 CW0
  go_wp2_with fail
  go_loopw [14] (fun v14 wr => ∃ (k : Nat) (acc : List UInt8), k ≤ n ∧ v14 = .int .i64 k ∧ acc.length = 8 + k * 16 ∧ S = acc ++ wS (l.drop k) ∧ Bd w0.heap.size b acc wr ∧ Below w0.heap.size w0 wr) (fun v14 _ => n - (intOf v14).toNat)
  case atStart => exact ⟨0, pre, Nat.zero_le _, rfl, hwl, HK.out.symm, H2.out.1, H2.out.2⟩
  case round =>
    clear H2 HB1
    obtain ⟨k, acc, hk, rfl, hal, hacc, hbd, ho⟩ := hrel
    have hln := HL.out.len
    by_cases hlt : k < n
    · have hkl : k < l.length := by omega
      obtain ⟨q, o, rfl, hcs⟩ := S_cells HL.out.lies hkl
      obtain ⟨hc0, hc1⟩ := hcs _ ho
      have hok := HL.out.ok _ (List.getElem_mem hkl)
      rw [wS_at l k hkl] at hacc
      generalize l[k] = x at *
      obtain ⟨x1, x2⟩ := x
      obtain ⟨hx1, hx2, hx3, hx4⟩ := hok
      simp only [] at hc0 hc1 hacc hx1 hx2 hx3 hx4
      obtain ⟨v2, rfl⟩ : ∃ v : Nat, x2 = (v : Int) := ⟨x2.toNat, by omega⟩
      rw [Int.toNat_natCast] at hacc
      obtain ⟨m1, hm1⟩ : ∃ m, wide (u64 x1) = m := ⟨_, rfl⟩
      obtain ⟨m2, hm2⟩ : ∃ m, wide v2 = m := ⟨_, rfl⟩
      have hz1 : m1.length = 8 := by rw [← hm1]; exact wide_len _
      have hz2 : m2.length = 8 := by rw [← hm2]; exact wide_len _
      have C1 : Hid (∀ W : World, Calls Tryd.prog 51 #[.int .u64 ((u64 x1 : Nat) : Int)] W fun e w' => e = .returned (.string (bs m1)) ∧ Below W.heap.size W w') := Lib.hid (fun W => by rw [← hm1]; exact wide_any (u64 x1) W (u64_lt _))
      have C2 : Hid (∀ W : World, Calls Tryd.prog 51 #[.int .u64 (v2 : Int)] W fun e w' => e = .returned (.string (bs m2)) ∧ Below W.heap.size W w') := Lib.hid (fun W => by rw [← hm2]; exact wide_any v2 W (by omega))
      rw [hm1, hm2] at hacc
      have CW : Hid (∀ W : World, Bd w0.heap.size b acc W → w0.heap.size ≤ W.heap.size → Calls Tryd.prog 50 #[.pointer (some ⟨b, 0, none⟩), .string (bs m1 ++ bs m2)] W fun e w' => e = .returned (.tuple #[.int .i64 ((m1 ++ m2).length : Int), .nilIface]) ∧ Bd w0.heap.size b (acc ++ (m1 ++ m2)) w' ∧ Below w0.heap.size W w' ∧ Keeps b W w') := Lib.hid (fun W hb hz => by
        rw [bs_append]; exact writes_any _ _ acc (m1 ++ m2) W hb (by rw [List.length_append]; omega) hz)
      have hg0 : b < wr.heap.size := hbd.lt
      have ho0 : Below w0.heap.size w0 (wr.alloc (.cells #[.int .i64 x1, .int .u64 (v2 : Int)] 37 (0, 0))) := ho.alloc ho.size _
      have hbd0 : Bd w0.heap.size b acc (wr.alloc (.cells #[.int .i64 x1, .int .u64 (v2 : Int)] 37 (0, 0))) := hbd.later ((Below.refl _ _).alloc (Nat.le_refl _) _)
      have hx0 : (wr.alloc (.cells #[.int .i64 x1, .int .u64 (v2 : Int)] 37 (0, 0))).heap[wr.heap.size]? = some (.cells #[.int .i64 x1, .int .u64 (v2 : Int)] 37 (0, 0)) := heap_alloc_new wr _
      have HF := Lib.hid (And.intro hacc (And.intro hal (And.intro hz1 hz2)))
      have hzb1 : (bs m1).size ≤ 8 := by rw [bs_size, hz1]; exact Nat.le_refl _
      have hzb2 : (bs m2).size ≤ 8 := by rw [bs_size, hz2]; exact Nat.le_refl _
      obtain ⟨M1, hM1⟩ : ∃ M, bs m1 = M := ⟨_, rfl⟩
      obtain ⟨M2, hM2⟩ : ∃ M, bs m2 = M := ⟨_, rfl⟩
      rw [hM1] at hzb1 C1 CW
      rw [hM2] at hzb2 C2 CW
      have hadd : ∀ W : World, (Op.stringOp .add M1 M2).run Tryd.prog W = .ok (.string (M1 ++ M2)) W := fun W => run_string_add_sum W M1 M2 (by omega)
      have hwr := u64_wr x1
      obtain ⟨V1, hV1⟩ : ∃ V, u64 x1 = V := ⟨_, rfl⟩
      rw [hV1] at hwr C1
      have K0 : (Below w0.heap.size w0 (wr.alloc (.cells #[.int .i64 x1, .int .u64 (v2 : Int)] 37 (0, 0))) ∧ (wr.alloc (.cells #[.int .i64 x1, .int .u64 (v2 : Int)] 37 (0, 0))).heap[wr.heap.size]? = some (.cells #[.int .i64 x1, .int .u64 (v2 : Int)] 37 (0, 0))) ∧ (wr.alloc (.cells #[.int .i64 x1, .int .u64 (v2 : Int)] 37 (0, 0))).cell? ⟨wr.heap.size, 0, none⟩ = some (.int .i64 x1) ∧ (wr.alloc (.cells #[.int .i64 x1, .int .u64 (v2 : Int)] 37 (0, 0))).cell? ⟨wr.heap.size, 1, none⟩ = some (.int .u64 (v2 : Int)) :=
        ⟨⟨ho0, hx0⟩, by rw [cell_of_row _ _ _ _ _ _ hx0]; rfl, by rw [cell_of_row _ _ _ _ _ _ hx0]; rfl⟩
      have K1 := Lib.hid (fun (W W' : World) (h : Below w0.heap.size w0 W ∧ W.heap[wr.heap.size]? = some (.cells #[.int .i64 x1, .int .u64 (v2 : Int)] 37 (0, 0))) (hb : Below w0.heap.size W W') (hk : Keeps b W W') =>
        (have hx := hk _ _ _ (by omega) (by decide) h.2; ⟨⟨h.1.trans hb, hx⟩, by rw [cell_of_row _ _ _ _ _ _ hx]; rfl, by rw [cell_of_row _ _ _ _ _ _ hx]; rfl⟩ :
          (Below w0.heap.size w0 W' ∧ W'.heap[wr.heap.size]? = some (.cells #[.int .i64 x1, .int .u64 (v2 : Int)] 37 (0, 0))) ∧ W'.cell? ⟨wr.heap.size, 0, none⟩ = some (.int .i64 x1) ∧ W'.cell? ⟨wr.heap.size, 1, none⟩ = some (.int .u64 (v2 : Int))))
      have KT := Lib.hid (fun (W W' : World) (h : Below w0.heap.size w0 W ∧ W.heap[wr.heap.size]? = some (.cells #[.int .i64 x1, .int .u64 (v2 : Int)] 37 (0, 0))) (hb : Below W.heap.size W W') => K1.out W W' h (hb.mono h.1.size) (Keeps.of_below hb))
      have KB := Lib.hid (fun (W W' : World) (hb : Below (wr.alloc (.cells #[.int .i64 x1, .int .u64 (v2 : Int)] 37 (0, 0))).heap.size (wr.alloc (.cells #[.int .i64 x1, .int .u64 (v2 : Int)] 37 (0, 0))) W) (hb2 : Below W.heap.size W W') => (hbd0.later hb).later hb2)
      clear ho hln hcs hbd hacc hm1 hm2 hal hz1 hz2 hx1 hx2 hx3 hx4 hM1 hM2 ho0 hbd0 hV1
      clear hx0
      go_wp2_with fail
      clear hc0 hc1
      generalize (wr.alloc (.cells #[.int .i64 x1, .int .u64 (v2 : Int)] 37 (0, 0))) = W0 at *
      go_region_held3 (fun W : World => (Below w0.heap.size w0 W ∧ W.heap[wr.heap.size]? = some (.cells #[.int .i64 x1, .int .u64 (v2 : Int)] 37 (0, 0))) ∧ W.cell? ⟨wr.heap.size, 0, none⟩ = some (.int .i64 x1) ∧ W.cell? ⟨wr.heap.size, 1, none⟩ = some (.int .u64 (v2 : Int)))
        (first | exact K0 | exact KT.out _ _ (And.left K0) (below_self_drew _) | exact KT.out _ _ (And.left (by assumption)) (by assumption) | exact K1.out _ _ (And.left (by assumption)) (by assumption) (by assumption))
        (first
          | (go_at_call 51; (with_reducible refine (C1.out _).mono ?_); rintro e w5 ⟨rfl, hb5⟩)
          | (go_at_call 51; (with_reducible refine (C2.out _).mono ?_); rintro e w6 ⟨rfl, hb6⟩)
          | (go_at_call 50; refine (CW.out _ (KB.out _ _ (below_draw hb5) hb6) (Nat.le_trans K0.1.1.size (Nat.le_trans hb5.size hb6.size))).mono ?_; rintro e w7 ⟨rfl, hbd7, hb7, hk7⟩))
      rename_i hh
      have HH := Lib.hid (And.intro hh.1.1 hbd7)
      clear hh hbd7 hb7 hk7 hb5 hb6 K0 K1 KT KB C1 C2 CW hadd hzb1 hzb2 hwr
      go_wp2_with fail
      go_roundw
      case rel => exact ⟨k + 1, acc ++ (m1 ++ m2), by omega, by go_num, by have := HF.out; rw [List.length_append, List.length_append]; omega, by rw [HF.out.1]; simp, HH.out.2, HH.out.1⟩
      case measure => simp [intOf]; omega
    · have hkn : k = n := by omega
      subst hkn
      rw [List.drop_of_length_le (by omega)] at hacc
      have hS : S = acc := by rw [hacc]; simp [wS]
      subst hS
      have HH := Lib.hid (And.intro ho hbd)
      clear ho hbd hacc
      go_wp2_with fail
      go_end0
      exact ⟨rfl, HH.out.2, HH.out.1⟩
end Go.Proofs.YtdidengokijcjaaDoor.ChW
/-
  chunk.putSmall: THE WALK.
-/
namespace Go.Proofs.YtdidengokijcjaaDoor.ChW
set_option linter.unusedVariables false
open Go.RowKit FrM FrW StM ChM LabW
theorem sS_at (l : List Sm) (k : Nat) (t : Int) (h : k < l.length) : sS t (l.drop k) = small (zig (wrap64 (l[k].1 - t))) ++ wide l[k].2.toNat ++ sS l[k].1 (l.drop (k + 1)) := by
  rw [List.drop_eq_getElem_cons h, sS]
theorem i64_wr (x : Int) : IntKind.i64.wrap x = wrap64 x := by rw [IntKind.wrap_i64]; unfold wrap64; rfl
set_option maxRecDepth 20000 in
set_option maxHeartbeats 4000000 in
theorem putSmall_any (w0 w : World) (b : Nat) (A : Option Addr) (n c : Nat) (l : List Sm) (hl : Comes w0 2 encS okS A n c l) (hn : n ≤ 1000) (h0 : Below w0.heap.size w0 w) (hbd : Bd w0.heap.size b [] w) :
    Calls Tryd.prog 38 #[.pointer (some ⟨b, 0, none⟩), .slice A n c] w fun e w' => e = .returned (.tuple #[]) ∧ Bd w0.heap.size b (small l.length ++ sS 0 l) w' ∧ Below w0.heap.size w0 w' := by
  have HL := Lib.hid hl
  have hcap : c ≤ 9223372036854775807 := hl.cap
  have hle := hl.le
  obtain ⟨S, hS⟩ : ∃ S, small l.length ++ sS 0 l = S := ⟨_, rfl⟩
  rw [hS]
  have HK := Lib.hid hS
  have hwl : (small l.length).length ≤ 10 := sm_len 9 l.length
  have CN : Hid (∀ W : World, Calls Tryd.prog 55 #[.int .u64 (n : Int)] W fun e w' => e = .returned (.string (bs (small l.length))) ∧ Below W.heap.size W w') := Lib.hid (fun W => by rw [hl.len]; exact small_any n W (by omega))
  have CW0 := Lib.hid (fun (W : World) (hb : Below w.heap.size w W) => writes_any w0.heap.size b [] (small l.length) W (hbd.later hb) (by rw [List.length_nil]; omega) (Nat.le_trans h0.size hb.size))
  have H0 := Lib.hid h0
  obtain ⟨M, hM⟩ : ∃ M, bs (small l.length) = M := ⟨_, rfl⟩
  obtain ⟨pre, hpre⟩ : ∃ p, small l.length = p := ⟨_, rfl⟩
  rw [hM] at CN CW0
  rw [hpre] at CW0 HK hwl
  clear hl hS hM hpre hbd h0
  go_enter Tryd.func38, Tryd.ntmps38
  go_wp2_with fail
  refine (CN.out _).mono ?_
  rintro e w1 ⟨rfl, hb1⟩
  have HB1 := Lib.hid hb1
  clear hb1 CN
  go_wp2_with fail
  refine (CW0.out _ HB1.out).mono ?_
  rintro e w2 ⟨rfl, hbd2, hb2, hk2⟩
  rw [List.nil_append] at hbd2
  have H2 := Lib.hid (And.intro hbd2 ((H0.out.trans (HB1.out.mono H0.out.size)).trans hb2))
  clear hbd2 hb2 hk2 CW0
  go_wp2_with fail
  go_loopw [4, 15] (fun v4 v14 wr => ∃ (k : Nat) (acc : List UInt8) (t : Int), k ≤ n ∧ v14 = .int .i64 k ∧ v4 = .int .i64 t ∧ acc.length ≤ 10 + k * 18 ∧ S = acc ++ sS t (l.drop k) ∧ Bd w0.heap.size b acc wr ∧ Below w0.heap.size w0 wr) (fun _ v14 _ => n - (intOf v14).toNat)
  case atStart => exact ⟨0, pre, 0, Nat.zero_le _, rfl, rfl, hwl, HK.out.symm, H2.out.1, H2.out.2⟩
  case round =>
    clear H2 HB1
    obtain ⟨k, acc, t, hk, rfl, rfl, hal, hacc, hbd, ho⟩ := hrel
    have hln := HL.out.len
    by_cases hlt : k < n
    · have hkl : k < l.length := by omega
      obtain ⟨q, o, rfl, hcs⟩ := S_cells HL.out.lies hkl
      obtain ⟨hc0, hc1⟩ := hcs _ ho
      have hok := HL.out.ok _ (List.getElem_mem hkl)
      rw [sS_at l k t hkl] at hacc
      generalize l[k] = x at *
      obtain ⟨x1, x2⟩ := x
      obtain ⟨hx1, hx2, hx3, hx4⟩ := hok
      simp only [] at hc0 hc1 hacc hx1 hx2 hx3 hx4
      obtain ⟨v2, rfl⟩ : ∃ v : Nat, x2 = (v : Int) := ⟨x2.toNat, by omega⟩
      rw [Int.toNat_natCast] at hacc
      obtain ⟨d, hd⟩ : ∃ d, wrap64 (x1 - t) = d := ⟨_, rfl⟩
      have hdo : okI d := by rw [← hd]; exact okI_wrap _
      have hzl := zig_lt hdo
      rw [hd] at hacc
      obtain ⟨m1, hm1⟩ : ∃ m, small (zig d) = m := ⟨_, rfl⟩
      obtain ⟨m2, hm2⟩ : ∃ m, wide v2 = m := ⟨_, rfl⟩
      have hz1 : m1.length ≤ 10 := by rw [← hm1]; exact sm_len 9 _
      have hz2 : m2.length = 8 := by rw [← hm2]; exact wide_len _
      have C0 : Hid (∀ W : World, Calls Tryd.prog 56 #[.int .i64 d] W fun e w' => e = .returned (.int .u64 ((zig d : Nat) : Int)) ∧ W = w') := Lib.hid (fun W => zig_any d W hdo)
      have C1 : Hid (∀ W : World, Calls Tryd.prog 55 #[.int .u64 ((zig d : Nat) : Int)] W fun e w' => e = .returned (.string (bs m1)) ∧ Below W.heap.size W w') := Lib.hid (fun W => by rw [← hm1]; exact small_any (zig d) W hzl)
      have C2 : Hid (∀ W : World, Calls Tryd.prog 51 #[.int .u64 (v2 : Int)] W fun e w' => e = .returned (.string (bs m2)) ∧ Below W.heap.size W w') := Lib.hid (fun W => by rw [← hm2]; exact wide_any v2 W (by omega))
      rw [hm1, hm2] at hacc
      have CW : Hid (∀ W : World, Bd w0.heap.size b acc W → w0.heap.size ≤ W.heap.size → Calls Tryd.prog 50 #[.pointer (some ⟨b, 0, none⟩), .string (bs m1 ++ bs m2)] W fun e w' => e = .returned (.tuple #[.int .i64 ((m1 ++ m2).length : Int), .nilIface]) ∧ Bd w0.heap.size b (acc ++ (m1 ++ m2)) w' ∧ Below w0.heap.size W w' ∧ Keeps b W w') := Lib.hid (fun W hb hz => by
        rw [bs_append]; exact writes_any _ _ acc (m1 ++ m2) W hb (by rw [List.length_append]; omega) hz)
      have hg0 : b < wr.heap.size := hbd.lt
      have ho0 : Below w0.heap.size w0 (wr.alloc (.cells #[.int .i64 x1, .int .u64 (v2 : Int)] 37 (0, 0))) := ho.alloc ho.size _
      have hbd0 : Bd w0.heap.size b acc (wr.alloc (.cells #[.int .i64 x1, .int .u64 (v2 : Int)] 37 (0, 0))) := hbd.later ((Below.refl _ _).alloc (Nat.le_refl _) _)
      have hx0 : (wr.alloc (.cells #[.int .i64 x1, .int .u64 (v2 : Int)] 37 (0, 0))).heap[wr.heap.size]? = some (.cells #[.int .i64 x1, .int .u64 (v2 : Int)] 37 (0, 0)) := heap_alloc_new wr _
      have HF := Lib.hid (And.intro hacc (And.intro hal (And.intro hz1 hz2)))
      have hzb1 : (bs m1).size ≤ 10 := by rw [bs_size]; exact hz1
      have hzb2 : (bs m2).size ≤ 8 := by rw [bs_size, hz2]; exact Nat.le_refl _
      obtain ⟨M1, hM1⟩ : ∃ M, bs m1 = M := ⟨_, rfl⟩
      obtain ⟨M2, hM2⟩ : ∃ M, bs m2 = M := ⟨_, rfl⟩
      rw [hM1] at hzb1 C1 CW
      rw [hM2] at hzb2 C2 CW
      have hadd : ∀ W : World, (Op.stringOp .add M1 M2).run Tryd.prog W = .ok (.string (M1 ++ M2)) W := fun W => run_string_add_sum W M1 M2 (by omega)
      have hwr : IntKind.i64.wrap (x1 - t) = d := by rw [i64_wr]; exact hd
      obtain ⟨V1, hV1⟩ : ∃ V, zig d = V := ⟨_, rfl⟩
      rw [hV1] at C0 C1
      have K0 : (Below w0.heap.size w0 (wr.alloc (.cells #[.int .i64 x1, .int .u64 (v2 : Int)] 37 (0, 0))) ∧ (wr.alloc (.cells #[.int .i64 x1, .int .u64 (v2 : Int)] 37 (0, 0))).heap[wr.heap.size]? = some (.cells #[.int .i64 x1, .int .u64 (v2 : Int)] 37 (0, 0))) ∧ (wr.alloc (.cells #[.int .i64 x1, .int .u64 (v2 : Int)] 37 (0, 0))).cell? ⟨wr.heap.size, 0, none⟩ = some (.int .i64 x1) ∧ (wr.alloc (.cells #[.int .i64 x1, .int .u64 (v2 : Int)] 37 (0, 0))).cell? ⟨wr.heap.size, 1, none⟩ = some (.int .u64 (v2 : Int)) :=
        ⟨⟨ho0, hx0⟩, by rw [cell_of_row _ _ _ _ _ _ hx0]; rfl, by rw [cell_of_row _ _ _ _ _ _ hx0]; rfl⟩
      have K1 := Lib.hid (fun (W W' : World) (h : Below w0.heap.size w0 W ∧ W.heap[wr.heap.size]? = some (.cells #[.int .i64 x1, .int .u64 (v2 : Int)] 37 (0, 0))) (hb : Below w0.heap.size W W') (hk : Keeps b W W') =>
        (have hx := hk _ _ _ (by omega) (by decide) h.2; ⟨⟨h.1.trans hb, hx⟩, by rw [cell_of_row _ _ _ _ _ _ hx]; rfl, by rw [cell_of_row _ _ _ _ _ _ hx]; rfl⟩ :
          (Below w0.heap.size w0 W' ∧ W'.heap[wr.heap.size]? = some (.cells #[.int .i64 x1, .int .u64 (v2 : Int)] 37 (0, 0))) ∧ W'.cell? ⟨wr.heap.size, 0, none⟩ = some (.int .i64 x1) ∧ W'.cell? ⟨wr.heap.size, 1, none⟩ = some (.int .u64 (v2 : Int))))
      have KT := Lib.hid (fun (W W' : World) (h : Below w0.heap.size w0 W ∧ W.heap[wr.heap.size]? = some (.cells #[.int .i64 x1, .int .u64 (v2 : Int)] 37 (0, 0))) (hb : Below W.heap.size W W') => K1.out W W' h (hb.mono h.1.size) (Keeps.of_below hb))
      have KB := Lib.hid (fun (W W' : World) (hb : Below (wr.alloc (.cells #[.int .i64 x1, .int .u64 (v2 : Int)] 37 (0, 0))).heap.size (wr.alloc (.cells #[.int .i64 x1, .int .u64 (v2 : Int)] 37 (0, 0))) W) (hb2 : Below W.heap.size W W') => (hbd0.later hb).later hb2)
      clear ho hln hcs hbd hacc hm1 hm2 hal hz1 hz2 hx1 hx2 hx3 hx4 hM1 hM2 ho0 hbd0 hV1 hd hdo hzl
      clear hx0
      go_wp2_with fail
      clear hc0 hc1
      generalize (wr.alloc (.cells #[.int .i64 x1, .int .u64 (v2 : Int)] 37 (0, 0))) = W0 at *
      go_region_held3 (fun W : World => (Below w0.heap.size w0 W ∧ W.heap[wr.heap.size]? = some (.cells #[.int .i64 x1, .int .u64 (v2 : Int)] 37 (0, 0))) ∧ W.cell? ⟨wr.heap.size, 0, none⟩ = some (.int .i64 x1) ∧ W.cell? ⟨wr.heap.size, 1, none⟩ = some (.int .u64 (v2 : Int)))
        (first | exact K0 | exact KT.out _ _ (And.left K0) (below_self_drew _) | exact KT.out _ _ (And.left (by assumption)) (by assumption) | exact K1.out _ _ (And.left (by assumption)) (by assumption) (by assumption))
        (first
          | (go_at_call 56; (with_reducible refine (C0.out _).mono ?_); rintro e w4 ⟨rfl, rfl⟩)
          | (go_at_call 55; (with_reducible refine (C1.out _).mono ?_); rintro e w5 ⟨rfl, hb5⟩)
          | (go_at_call 51; (with_reducible refine (C2.out _).mono ?_); rintro e w6 ⟨rfl, hb6⟩)
          | (go_at_call 50; refine (CW.out _ (KB.out _ _ (below_draw hb5) hb6) (Nat.le_trans K0.1.1.size (Nat.le_trans hb5.size hb6.size))).mono ?_; rintro e w7 ⟨rfl, hbd7, hb7, hk7⟩))
      rename_i hh
      have HH := Lib.hid (And.intro hh.1.1 hbd7)
      have hc7 := hh.2.1
      clear hh hbd7 hb7 hk7 hb5 hb6 K0 K1 KT KB C0 C1 C2 CW hadd hzb1 hzb2 hwr
      go_wp2_with fail
      go_roundw
      case rel => exact ⟨k + 1, acc ++ (m1 ++ m2), x1, by omega, by go_num, rfl, by have := HF.out; rw [List.length_append, List.length_append]; omega, by rw [HF.out.1]; simp, HH.out.2, HH.out.1⟩
      case measure => simp [intOf]; omega
    · have hkn : k = n := by omega
      subst hkn
      rw [List.drop_of_length_le (by omega)] at hacc
      have hS : S = acc := by rw [hacc]; simp [sS]
      subst hS
      have HH := Lib.hid (And.intro ho hbd)
      clear ho hbd hacc
      go_wp2_with fail
      go_end0
      exact ⟨rfl, HH.out.2, HH.out.1⟩
end Go.Proofs.YtdidengokijcjaaDoor.ChW
/-
  chunk.putBits: THE WALK.
-/
namespace Go.Proofs.YtdidengokijcjaaDoor.ChW
set_option linter.unusedVariables false
open Go.RowKit FrM FrW StM ChM LabW BitsM BitsW
theorem own_same {w w' : World} {base n size : Nat} {e : TypeId} {v : Value} {xs : List Value} (h : w.ownsRow base e size v n xs) (hk : ∀ k, v.ownBlock = some k → w'.heap[k]? = w.heap[k]?) : w'.ownsRow base e size v n xs := by
  refine ⟨h.1, ?_⟩
  rcases h.2 with h2 | ⟨g, cap, cur, hv, hgb, hh, hr⟩
  · exact .inl h2
  · exact .inr ⟨g, cap, cur, hv, hgb, (hk g (by rw [hv]; rfl)).trans hh, hr⟩
theorem own_type {w : World} {b1 b2 n1 n2 s1 s2 : Nat} {e1 e2 : TypeId} {v1 v2 : Value} {x1 x2 : List Value} (h1 : w.ownsRow b1 e1 s1 v1 n1 x1) (h2 : w.ownsRow b2 e2 s2 v2 n2 x2) (he : e1 ≠ e2) : ∀ k, v1.ownBlock = some k → v2.ownBlock ≠ some k := by
  intro k hk hk2
  rcases h1.2 with ⟨hv, _⟩ | ⟨g, cap, cur, hv, hgb, hh, _⟩
  · rw [hv] at hk; cases hk
  rcases h2.2 with ⟨hv2, _⟩ | ⟨g2, cap2, cur2, hv2, hgb2, hh2, _⟩
  · rw [hv2] at hk2; cases hk2
  rw [hv] at hk
  rw [hv2] at hk2
  injection hk with hk
  injection hk2 with hk2
  subst hk hk2
  rw [hh] at hh2
  injection hh2 with hh2
  injection hh2 with _ h3
  exact he h3
theorem own_lt' {w : World} {base n size : Nat} {e : TypeId} {v : Value} {xs : List Value} (h : w.ownsRow base e size v n xs) : ∀ k, v.ownBlock = some k → base ≤ k ∧ k < w.heap.size := by
  intro k hk
  rcases h.2 with ⟨hv, _⟩ | ⟨g, cap, cur, hv, hgb, hh, _⟩
  · rw [hv] at hk; cases hk
  · rw [hv] at hk; cases hk; exact ⟨hgb, (Array.getElem?_eq_some_iff.1 hh).1⟩
/-- 'append(s, x)' of one thing, onto a row of the call's own: all other blocks are as they were. -/
theorem wpList_append_keepC {P : Program} {ops : Array Oper} {rest : List Oper} {o : Oper} {a : Act} {Q : Exit → Act → World → Prop} (hgd : o.guard = none) (s x : Operand) (t : TypeId)
    (ho : o.op = .call { callee := .builtin .append, args := #[s, x], argTypes := #[t, t] })
    (base : Nat) (e : TypeId) (z : Value) (size bytes : Nat) (ht : P.underlying t = some (.slice e)) (he : Elem P e z size bytes) (hzs : z.cells.size = size) (hsz : 0 < size)
    {v : Value} {n : Nat} {xs : List Value} (wr : World) (hown : wr.ownsRow base e size v n xs) (hs : a.eval s = v) (us : Array Value) {g : Nat} (hgg : wr.heap.size = g)
    (hx : a.eval x = .slice (some ⟨g, 0, none⟩) 1 1) (hl : us.size = size) (h1 : ∀ u ∈ us.toList, u.oneCell' = true)
    (hbytes : (n + 1) * bytes ≤ 140737488355328) (h63 : n + 1 ≤ 140737488355328) (hbase : base ≤ wr.heap.size)
    (h : ∀ v' w', w'.ownsRow base e size v' (n + 1) (xs ++ us.toList) → Below base wr w' → wr.heap.size < w'.heap.size → (∀ k, k < wr.heap.size → v.ownBlock ≠ some k → w'.heap[k]? = wr.heap[k]?) → wpList P ops Q rest (a.put o.dst v') w') :
    wpList P ops Q (o :: rest) a (wr.alloc (.cells us e (0, 0))) := by
  subst hgg
  obtain ⟨i0, hi, hz0, hz1, hz2⟩ := info_parts he
  refine wpList_append_own (w := wr.alloc (.cells us e (0, 0))) hgd s x t ho base e i0 z size bytes ht hi hz0 hz1 hz2 hzs hsz v n xs hs (hown.alloc _) ⟨wr.heap.size, 0, none⟩ 1 1 us.toList hx (by simp [hl]) ?_ h1 ?_ hbytes ?_ ?_
  · intro j u hj
    have hp : (⟨wr.heap.size, 0, none⟩ : Addr).add j = ⟨wr.heap.size, j, none⟩ := by unfold Addr.add; split <;> simp_all
    rw [hp, World.cell?_alloc_mark]
    simpa using hj
  · unfold maxLen; omega
  · simp; omega
  · intro v' w' hown' hg _
    refine h v' w' hown' ?_ ?_ ?_
    · refine ((Below.refl base wr).alloc hbase _).grown hg (by simp; omega) ?_
      intro k hk
      rcases hown.2 with ⟨hv, _⟩ | ⟨g, cap, cur, hv, hgb, _⟩
      · rw [hv] at hk; cases hk
      · rw [hv] at hk; cases hk; exact hgb
    · have := hg.size; simp at this; omega
    · intro k hk hne
      exact (hg.block k (by simp; omega) (fun e => hne e.symm)).trans (Below.heap_alloc wr _ k hk)
theorem times_snoc (l : List Sm) (k : Nat) (h : k < l.length) : times (l.take (k + 1)) = times (l.take k) ++ [l[k].1] := by
  unfold times; rw [List.take_succ_eq_append_getElem h, List.map_append]; rfl
theorem vals_snoc (l : List Sm) (k : Nat) (h : k < l.length) : vals (l.take (k + 1)) = vals (l.take k) ++ [l[k].2.toNat] := by
  unfold vals; rw [List.take_succ_eq_append_getElem h, List.map_append]; rfl
theorem times_len (l : List Sm) : (times l).length = l.length := List.length_map ..
theorem vals_len (l : List Sm) : (vals l).length = l.length := List.length_map ..
set_option maxRecDepth 20000 in
set_option maxHeartbeats 4000000 in
theorem putBits_any (w0 w : World) (b : Nat) (A : Option Addr) (n c : Nat) (l : List Sm) (hl : Comes w0 2 encS okS A n c l) (hn : n ≤ 1000) (h0 : Below w0.heap.size w0 w) (hbd : Bd w0.heap.size b [] w) (hT : Tab w0) :
    Calls Tryd.prog 40 #[.pointer (some ⟨b, 0, none⟩), .slice A n c] w fun e w' => e = .returned (.tuple #[]) ∧ Bd w0.heap.size b (small l.length ++ (text (tB l) ++ text (vB l))) w' ∧ Below w0.heap.size w0 w' := by
  have HL := Lib.hid hl
  have hcap : c ≤ 9223372036854775807 := hl.cap
  have hle := hl.le
  have hok : okMs l := fun x hx => ok_of (hl.ok x hx)
  have HOK := Lib.hid hok
  have H0 := Lib.hid (And.intro h0 (And.intro hbd hT))
  clear hl h0 hbd hT hok
  go_enter Tryd.func40, Tryd.ntmps40
  go_wp2_with fail
  go_loopw [4, 5, 10] (fun v4 v5 v10 wr => ∃ (k : Nat), k ≤ n ∧ v10 = .int .i64 k ∧ wr.ownsRow w.heap.size 2 1 v4 k ((times (l.take k)).flatMap StW.encI) ∧ wr.ownsRow w.heap.size 35 1 v5 k ((vals (l.take k)).flatMap VaW.encU) ∧ Below w.heap.size w wr) (fun _ _ v10 _ => n - (intOf v10).toNat)
  case atStart => exact ⟨0, Nat.zero_le _, rfl, World.ownsRow_nil _ _ _ _, World.ownsRow_nil _ _ _ _, Below.refl _ _⟩
  case round =>
    obtain ⟨k, hk, rfl, hown4, hown5, ho⟩ := hrel
    have hln := HL.out.len
    by_cases hlt : k < n
    · have hkl : k < l.length := by omega
      obtain ⟨q, o, rfl, hcs⟩ := S_cells HL.out.lies hkl
      obtain ⟨hc0, hc1⟩ := hcs _ (H0.out.1.trans (ho.mono H0.out.1.size))
      have ht := times_snoc l k hkl
      have hv := vals_snoc l k hkl
      have hok := HL.out.ok _ (List.getElem_mem hkl)
      generalize l[k] = x at *
      obtain ⟨x1, x2⟩ := x
      obtain ⟨hx1, hx2, hx3, hx4⟩ := hok
      simp only [] at hc0 hc1 ht hv hx3
      obtain ⟨v2, rfl⟩ : ∃ v : Nat, x2 = (v : Int) := ⟨x2.toNat, by omega⟩
      rw [Int.toNat_natCast] at hv
      have hbz := ho.size
      have hoA : Below w.heap.size w (wr.alloc (.cells #[.int .i64 x1, .int .u64 (v2 : Int)] 37 (0, 0))) := ho.alloc ho.size _
      have hA : (wr.alloc (.cells #[.int .i64 x1, .int .u64 (v2 : Int)] 37 (0, 0))).heap[wr.heap.size]? = some (.cells #[.int .i64 x1, .int .u64 (v2 : Int)] 37 (0, 0)) := heap_alloc_new wr _
      have hownA4 := hown4.alloc (.cells #[.int .i64 x1, .int .u64 (v2 : Int)] 37 (0, 0))
      have hownA5 := hown5.alloc (.cells #[.int .i64 x1, .int .u64 (v2 : Int)] 37 (0, 0))
      have hlt4 : ∀ j, Value.ownBlock _ = some j → j ≠ wr.heap.size := fun j hj => Nat.ne_of_lt (own_lt' hown4 j hj).2
      have hzA : (wr.alloc (.cells #[.int .i64 x1, .int .u64 (v2 : Int)] 37 (0, 0))).heap.size = wr.heap.size + 1 := by simp
      have HA := Lib.hid (And.intro hoA (And.intro hA (And.intro hownA5 (And.intro hlt4 (own_type hownA4 hownA5 (by decide))))))
      have HTV := Lib.hid (And.intro ht hv)
      have HZ := Lib.hid (And.intro hzA hbz)
      clear ho hln hcs hown4 hown5 hoA hA hownA5 hlt4 ht hv hzA hx1 hx2 hx3 hx4
      go_wp2_with (first
        | (at_builtin; (refine wpList_append_keepC rfl _ _ 52 rfl w.heap.size 2 (.int .i64 0) 1 8 Tryd.underlying52 StW.elemI64 rfl (by decide) (wr.alloc (.cells #[.int .i64 x1, .int .u64 (v2 : Int)] 37 (0, 0))) hownA4 rfl _ HZ.out.1 rfl rfl (one1 rfl) (by omega) (by omega) (by rw [HZ.out.1]; have := HZ.out.2; omega) ?_)
           intro v4' w4' hown4' hb4' hz4' hkp4
           have hA4 : w4'.heap[wr.heap.size]? = some (.cells #[.int .i64 x1, .int .u64 (v2 : Int)] 37 (0, 0)) := (hkp4 _ (by rw [HZ.out.1]; omega) (fun e => HA.out.2.2.2.1 _ e rfl)).trans HA.out.2.1
           have d1 : w4'.cell? ⟨wr.heap.size, 1, none⟩ = some (.int .u64 (v2 : Int)) := by rw [cell_of_row _ _ _ _ _ _ hA4]; rfl
           have hown5B := own_same (w' := w4') HA.out.2.2.1 (fun j hj => hkp4 j (own_lt' HA.out.2.2.1 j hj).2 (fun e => HA.out.2.2.2.2 j e hj))
           have HB4 := Lib.hid (HA.out.1.trans hb4')
           have HO4 := Lib.hid hown4'
           have HD := Lib.hid (own_type hown5B hown4' (by decide))
           clear hownA4 hown4' hb4' hz4' hkp4 hA4)
        | (at_builtin; (refine wpList_append_keepC rfl _ _ 53 rfl w.heap.size 35 (.int .u64 0) 1 8 Tryd.underlying53 VaW.elemU64 rfl (by decide) w4' hown5B rfl _ rfl rfl rfl (one1 rfl) (by omega) (by omega) HB4.out.size ?_)
           intro v5' w5' hown5' hb5' hz5' hkp5
           have hown4C := own_same (w' := w5') HO4.out (fun j hj => hkp5 j (own_lt' HO4.out j hj).2 (fun e => HD.out j e hj))
           have HB5 := Lib.hid (HB4.out.trans hb5')
           have HO5 := Lib.hid (And.intro hown4C hown5')
           clear hown5B hown5' hb5' hz5' hkp5 hown4C HO4 d1))
      go_roundw
      case rel =>
        refine ⟨k + 1, by omega, by go_num, ?_, ?_, HB5.out⟩
        · rw [HTV.out.1, List.flatMap_append]; exact HO5.out.1
        · rw [HTV.out.2, List.flatMap_append]; exact HO5.out.2
      case measure => simp [intOf]; omega
    · have hkn : k = n := by omega
      subst hkn
      rw [List.take_of_length_le (by omega)] at hown4 hown5
      obtain ⟨A4, c4, rfl, -, hc4⟩ := Comes.of_own hown4 (fun _ => rfl) (by decide) (times_ok HOK.out)
      obtain ⟨A5, c5, rfl, -, hc5⟩ := Comes.of_own hown5 (fun _ => rfl) (by decide) (vals_ok HOK.out)
      have hoT := H0.out.1.trans (ho.mono H0.out.1.size)
      have hb1 := bitsAll_len StW.s0 (times l)
      have hb2 := VaM.bitsV_len VaM.v0 (vals l)
      rw [times_len] at hb1
      rw [vals_len] at hb2
      have ht1 : (tB l).length ≤ 8501 := by unfold tB; have := pack_le (bitsAll StW.s0 (times l)); omega
      have ht2 : (vB l).length ≤ 9751 := by unfold vB; have := pack_le (VaM.bitsV VaM.v0 (vals l)); omega
      have K1 : Hid (∀ W, Calls Tryd.prog 55 #[.int .u64 (k : Int)] W fun e w' => e = .returned (.string (bs (small l.length))) ∧ Below W.heap.size W w') := Lib.hid (fun W => by rw [hln]; exact small_any k W (by omega))
      have K2 : Hid (∀ W, Below wr.heap.size wr W → Calls Tryd.prog 61 #[.slice A4 k c4] W fun e w' => e = .returned (.string (bs (tB l))) ∧ Below W.heap.size W w') := Lib.hid (fun W h => StW.all_any A4 k c4 (times l) W (hc4.later h) (by omega))
      have K3 : Hid (∀ W, Calls Tryd.prog 60 #[.string (bs (tB l))] W fun e w' => e = .returned (.string (bs (text (tB l)))) ∧ Below W.heap.size W w') := Lib.hid (fun W => text_any (tB l) W (by omega))
      have K4 : Hid (∀ W, Below wr.heap.size wr W → Calls Tryd.prog 62 #[.slice A5 k c5] W fun e w' => e = .returned (.string (bs (vB l))) ∧ Below W.heap.size W w') := Lib.hid (fun W h => VaW.all_any A5 k c5 (vals l) W (hc5.later h) (by omega) (H0.out.2.2.later (hoT.trans (h.mono hoT.size))))
      have K5 : Hid (∀ W, Calls Tryd.prog 60 #[.string (bs (vB l))] W fun e w' => e = .returned (.string (bs (text (vB l)))) ∧ Below W.heap.size W w') := Lib.hid (fun W => text_any (vB l) W (by omega))
      have hs1 : (small l.length).length ≤ 10 := sm_len 9 l.length
      have hs2 := text_len (tB l)
      have hs3 := text_len (vB l)
      have hs4 : (small (tB l).length).length ≤ 10 := sm_len 9 _
      have hs5 : (small (vB l).length).length ≤ 10 := sm_len 9 _
      have hz1 := bs_size (small l.length)
      have hz2 := bs_size (text (tB l))
      have hz3 := bs_size (text (vB l))
      have ha1 : ∀ W : World, (Op.stringOp .add (bs (small l.length)) (bs (text (tB l)))).run Tryd.prog W = .ok (.string (bs (small l.length ++ text (tB l)))) W := fun W => by rw [← bs_append]; exact run_string_add_sum W _ _ (by omega)
      have ha2 : ∀ W : World, (Op.stringOp .add (bs (small l.length ++ text (tB l))) (bs (text (vB l)))).run Tryd.prog W = .ok (.string (bs (small l.length ++ (text (tB l) ++ text (vB l))))) W := fun W => by
        rw [← List.append_assoc, ← bs_append (small l.length ++ text (tB l)), ← bs_append]
        exact run_string_add_sum W _ _ (by rw [ByteArray.size_append]; omega)
      have CW := Lib.hid (fun (W : World) (h : Below wr.heap.size wr W) => writes_any w0.heap.size b [] (small l.length ++ (text (tB l) ++ text (vB l))) W ((H0.out.2.1.later ho).later h) (by rw [List.length_append, List.length_append, List.length_nil]; omega) (Nat.le_trans hoT.size h.size))
      rw [List.nil_append] at CW
      have HT := Lib.hid hoT
      obtain ⟨F, hF⟩ : ∃ F, small l.length ++ (text (tB l) ++ text (vB l)) = F := ⟨_, rfl⟩
      have HFF := Lib.hid hF
      rw [hF] at ha2 CW
      obtain ⟨M0, hM0⟩ : ∃ M, bs (small l.length) = M := ⟨_, rfl⟩
      obtain ⟨M1, hM1⟩ : ∃ M, bs (tB l) = M := ⟨_, rfl⟩
      obtain ⟨M2, hM2⟩ : ∃ M, bs (text (tB l)) = M := ⟨_, rfl⟩
      obtain ⟨M3, hM3⟩ : ∃ M, bs (vB l) = M := ⟨_, rfl⟩
      obtain ⟨M4, hM4⟩ : ∃ M, bs (text (vB l)) = M := ⟨_, rfl⟩
      obtain ⟨M5, hM5⟩ : ∃ M, bs (small l.length ++ text (tB l)) = M := ⟨_, rfl⟩
      obtain ⟨M6, hM6⟩ : ∃ M, bs F = M := ⟨_, rfl⟩
      rw [hM0] at K1 ha1
      rw [hM1] at K2 K3
      rw [hM2] at K3 ha1
      rw [hM3] at K4 K5
      rw [hM4] at K5 ha2
      rw [hM5] at ha1 ha2
      rw [hM6] at ha2 CW
      clear hM0 hM1 hM2 hM3 hM4 hM5 hM6 hF hz1 hz2 hz3 hs1 hs2 hs3 hs4 hs5 ht1 ht2 hb1 hb2 hoT hc4 hc5 hown4 hown5 ho
      go_wp2_with fail
      refine (K1.out _).mono ?_
      rintro e w1 ⟨rfl, hb1⟩
      have HB := Lib.hid hb1
      clear hb1
      go_wp2_with fail
      refine (K2.out _ HB.out).mono ?_
      rintro e w2 ⟨rfl, hb1⟩
      replace HB := Lib.hid (later HB.out hb1)
      clear hb1
      go_wp2_with fail
      refine (K3.out _).mono ?_
      rintro e w3 ⟨rfl, hb1⟩
      replace HB := Lib.hid (later HB.out hb1)
      clear hb1
      go_wp2_with fail
      refine (K4.out _ HB.out).mono ?_
      rintro e w4 ⟨rfl, hb1⟩
      replace HB := Lib.hid (later HB.out hb1)
      clear hb1
      go_wp2_with fail
      refine (K5.out _).mono ?_
      rintro e w5 ⟨rfl, hb1⟩
      replace HB := Lib.hid (later HB.out hb1)
      clear hb1
      go_wp2_with fail
      refine (CW.out _ HB.out).mono ?_
      rintro e w6 ⟨rfl, hbd6, hb6, hk6⟩
      have H6 := Lib.hid (And.intro hbd6 ((HT.out.trans (HB.out.mono HT.out.size)).trans hb6))
      clear hbd6 hb6 hk6
      go_wp2_with fail
      go_end0
      exact ⟨rfl, by rw [HFF.out]; exact H6.out.1, H6.out.2⟩
end Go.Proofs.YtdidengokijcjaaDoor.ChW
