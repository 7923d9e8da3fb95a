/-
  BitsPuts: THE WALK.
-/
import Derived.Test.YtcbdaemohfpebaaDoorBitsWorks
import Derived.Test.YtcbdaemohfpebaaDoorMem
import Derived.StillTailTactics
namespace Go.Proofs.YtcbdaemohfpebaaDoor.BitsW
open Go.RowKit Go.Shelf BitsM
def encPut (p : Nat × Int) : List Value := [.int .u64 (p.1 : Int), .int .i64 p.2]
def okPut (p : Nat × Int) : Prop := p.1 < 18446744073709551616 ∧ -9223372036854775808 ≤ p.2 ∧ p.2 ≤ 9223372036854775807
/-- The bits of puts. -/
def bitsOf (l : List (Nat × Int)) : List Bool := l.flatMap fun p => msb p.1 (within p.2)
theorem bitsOf_snoc (l : List (Nat × Int)) (p : Nat × Int) : bitsOf (l ++ [p]) = bitsOf l ++ msb p.1 (within p.2) := by simp [bitsOf]
theorem bitsOf_len (l : List (Nat × Int)) : (bitsOf l).length ≤ 64 * l.length := by
  induction l with
  | nil => simp [bitsOf]
  | cons p l ih =>
    have := within_le p.2
    simp [bitsOf, msb_length] at *; omega
/-- A put that came in, by its cells. -/
theorem put_cells {w : World} {A : Option Addr} {l : List (Nat × Int)} (h : Lies w w.heap.size 2 encPut A l) {k : Nat} (hk : k < l.length) :
    ∃ b o, A = some ⟨b, o, none⟩ ∧ ∀ W, Below w.heap.size w W → W.cell? ⟨b, o + k * 2, none⟩ = some (.int .u64 (l[k].1 : Int)) ∧ W.cell? ⟨b, o + k * 2 + 1, none⟩ = some (.int .i64 l[k].2) := by
  obtain ⟨b, o, hA, _, hc⟩ := h.all hk
  exact ⟨b, o, hA, fun W hW => ⟨hc W hW 0 _ rfl, hc W hW 1 _ rfl⟩⟩
set_option maxRecDepth 100000 in
set_option maxHeartbeats 1000000 in
theorem bitsPuts_walk (A : Option Addr) (n c : Nat) (l : List (Nat × Int)) (w : World) (hl : Comes w 2 encPut okPut A n c l) (hT : Tab w) :
    Calls Tryd.prog 3 #[.slice A n c] w fun e w' => e = .returned (.bool true) ∧ Below w.heap.size w w' := by
  have HL := Lib.hid hl
  have HT := Lib.hid hT
  have hcap : c ≤ 9223372036854775807 := hl.cap
  have hle := hl.le
  clear hl hT
  by_cases h60 : 60 < n
  · go_enter Tryd.func3, Tryd.ntmps3
    go_wp2_with fail
    refine (works_any _ HT.out).mono ?_
    rintro e w1 ⟨rfl, hb1⟩
    have HB1 := Lib.hid hb1
    clear hb1
    go_wp2_with fail
    refine (newWriter_any _).mono ?_
    rintro e w2 ⟨rfl, hw2, hb2, hz2⟩
    have HB2 := Lib.hid (later HB1.out hb2)
    clear hw2 hb2
    go_wp2_with fail
    go_ret
    exact ⟨rfl, HB2.out⟩
  · go_enter Tryd.func3, Tryd.ntmps3
    go_wp2_with fail
    refine (works_any _ HT.out).mono ?_
    rintro e w1 ⟨rfl, hb1⟩
    have HB1 := Lib.hid hb1
    clear hb1
    go_wp2_with fail
    refine (newWriter_any _).mono ?_
    rintro e w2 ⟨rfl, hw2, hb2, hz2⟩
    have HO := Lib.hid ((One.new hw2 hb2).since HB1.out)
    clear hw2 hb2 hz2
    generalize w1.heap.size = bw at *
    go_wp2_with fail
    go_loopw [5, 6] (fun v5 v6 wr => ∃ k : Nat, k ≤ n ∧ v6 = .int .i64 k ∧ v5 = .string (bstr (bitsOf (l.take k))) ∧ One w wr bw (bitsOf (l.take k))) (fun _ v6 _ => n - (intOf v6).toNat)
    case atStart => exact ⟨0, Nat.zero_le _, rfl, rfl, HO.out⟩
    case round =>
      obtain ⟨k, hk, rfl, rfl, ho⟩ := hrel
      have hln := HL.out.len
      by_cases hlt : k < n
      · have hkl : k < l.length := by omega
        obtain ⟨b, o, rfl, hcs⟩ := put_cells HL.out.lies hkl
        have hsn : bitsOf (l.take (k + 1)) = bitsOf (l.take k) ++ msb l[k].1 (within l[k].2) := by rw [take_snocL l k hkl, bitsOf_snoc]
        have hblen : (bitsOf (l.take k)).length ≤ 64 * k := by have := bitsOf_len (l.take k); simp at this; omega
        have hok := HL.out.ok _ (List.getElem_mem hkl)
        generalize l[k] = x at *
        obtain ⟨v, m⟩ := x
        generalize bitsOf (l.take k) = bs at *
        obtain ⟨hc0, hc1⟩ := hcs _ ho.below
        have HC := Lib.hid hcs
        have HS := Lib.hid (And.intro hsn (And.intro hblen hok))
        have HO2 := Lib.hid ho
        have i0 : (0 : Int) ≤ (k : Int) := by omega
        have i1 : (k : Int) < (n : Int) := by omega
        clear hsn hblen hok ho hln hcs
        go_wp2_with fail
        go_still_tail 11, (by kernel_rfl)
        go_wp2_with fail
        have hbl := HS.out.2.1
        refine (HO2.out.drew.put (by omega) (v : Int) m (by omega) (by have := HS.out.2.2.1; omega)).mono ?_
        rintro e w3 ⟨rfl, ho3⟩
        rw [Int.toNat_natCast] at ho3
        obtain ⟨hd0, hd1⟩ := HC.out _ ho3.below
        have HO3 := Lib.hid ho3
        clear ho3 hc0 hc1 HO2
        have hrb : ∀ W, Calls Tryd.prog 22 #[.int .u64 v, .int .i64 m] W fun e w' => e = .returned (.string (bstr (msb v (within m)))) ∧ w' = W := fun W => (rbits_any v m W HS.out.2.2.1 (by have := HS.out.2.2.2; omega)).mono fun e w' ⟨h1, h2⟩ => ⟨h1, h2.symm⟩
        have HR := Lib.hid hrb
        clear hrb
        have hzs : (bstr bs).size ≤ 3840 := by rw [bstr_size]; omega
        have hzm : (bstr (msb v (within m))).size ≤ 64 := by rw [bstr_size, msb_length]; exact within_le m
        go_wp2_with fail
        go_quiet ((go_at_call 22; exact Calls.quiet_of_same (HR.out _)))
        go_wp2_with fail
        rw [← bstr_append]
        generalize hbs2 : bs ++ msb v (within m) = bs2 at *
        obtain ⟨q, hq⟩ : ∃ q, bs2.length = q := ⟨_, rfl⟩
        have hzq : (bstr bs2).size = q := by rw [bstr_size, hq]
        have hq2 : q ≤ 3904 := by rw [← hq, ← hbs2, List.length_append, msb_length]; have := within_le m; omega
        have HQ := Lib.hid (And.intro hbs2 hq)
        clear hbs2 hq hzs hzm HR
        refine (HO3.out.drewN nq).len.mono ?_
        rintro e w' ⟨rfl, rfl⟩
        rw [HQ.out.2]
        go_wp2_with fail
        refine (HO3.out.drewN nq).bytes.mono ?_
        rintro e w' ⟨rfl, rfl⟩
        go_wp2_with fail
        refine (rbytes_any bs2 _ (by rw [HQ.out.2]; omega)).mono ?_
        rintro e w4 ⟨rfl, hb4⟩
        have HO4 := Lib.hid ((HO3.out.drewN nq).later hb4)
        clear hb4 hd0 hd1
        go_wp2_with fail
        go_roundw
        case rel => exact ⟨k + 1, by omega, by go_num, by rw [HS.out.1], by rw [HS.out.1]; exact HO4.out⟩
        case measure => simp [intOf]; omega
      · obtain rfl : k = n := by omega
        have HO2 := Lib.hid ho.below
        clear ho
        go_wp2_with fail
        go_ret
        exact ⟨rfl, HO2.out⟩
end Go.Proofs.YtcbdaemohfpebaaDoor.BitsW
