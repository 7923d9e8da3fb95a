/-
  THE WALKS OF THE DOCUMENT's ANSWER FOR BITS (alluviumref02).
-/
import Derived.Test.YtboomamnenonoaaDoorBitsMore
namespace Go.Proofs.YtboomamnenonoaaDoor.BitsW
open Go.RowKit Go.Shelf BitsM
/-- Bits as a text of 0 and 1. -/
def chr (x : Bool) : UInt8 := if x then 49 else 48
def bstr (b : List Bool) : ByteArray := ⟨(b.map chr).toArray⟩
theorem bstr_size (b : List Bool) : (bstr b).size = b.length := by simp [bstr, ByteArray.size]
theorem bstr_append (b c : List Bool) : bstr (b ++ c) = bstr b ++ bstr c := by
  apply ByteArray.ext
  simp [bstr]
theorem bstr_one (b : List Bool) : (⟨#[49]⟩ : ByteArray) ++ bstr b = bstr (true :: b) := (bstr_append [true] b).symm
theorem bstr_zero (b : List Bool) : (⟨#[48]⟩ : ByteArray) ++ bstr b = bstr (false :: b) := (bstr_append [false] b).symm
theorem bstr_more (b : List Bool) : bstr b ++ (⟨#[48]⟩ : ByteArray) = bstr (b ++ [false]) := (bstr_append b [false]).symm
theorem bstr_extract (b : List Bool) (i j : Nat) : (bstr b).extract i j = bstr ((b.drop i).take (j - i)) := by
  apply ByteArray.ext
  apply Array.ext'
  simp [bstr, List.map_take, List.map_drop]
theorem bstr_get (b : List Bool) (i : Nat) (h : i < (bstr b).size) : (bstr b)[i] = chr (b[i]'(by rw [bstr_size] at h; exact h)) := by
  simp [bstr, ByteArray.getElem_eq_getElem_data]
theorem chr_one (x : Bool) : (((chr x).toNat : Int) == 49) = x := by cases x <;> decide
theorem chr_zero (x : Bool) : (((chr x).toNat : Int) == 48) = !x := by cases x <;> decide
theorem chr_nz (x : Bool) : (((chr x).toNat : Int) != 48) = x := by cases x <;> decide
theorem bstr_inj {b c : List Bool} (h : bstr b = bstr c) : b = c := by
  have h1 := congrArg (fun s : ByteArray => s.data.toList) h
  simp only [bstr] at h1
  have hi : ∀ x y : Bool, chr x = chr y → x = y := by decide
  exact (List.map_inj_right hi).1 h1
theorem msb_cons (v i : Nat) : msb v (i + 1) = decide (v / 2 ^ i % 2 = 1) :: msb v i := by
  rw [Nat.add_comm, msb_append]; rfl
set_option maxHeartbeats 400000 in
theorem rbits_any (v : Nat) (n : Int) (w : World) (hv : v < 18446744073709551616) (hn : n ≤ 9223372036854775807) :
    Calls Tryd.prog 35 #[.int .u64 v, .int .i64 n] w fun e w' => e = .returned (.string (bstr (msb v (within n)))) ∧ w = w' := by
  have hwl := within_le n
  have hwc := within_cast n
  generalize hN : within n = N at *
  go_enter Tryd.func35, Tryd.ntmps35
  go_wp2
  go_loop [0, 5, 6] (fun v0 v5 v6 => ∃ i : Nat, i ≤ N ∧ v6 = .int .i64 i ∧ v0 = .int .u64 ((v / 2 ^ i : Nat) : Int) ∧ v5 = .string (bstr (msb v i))) (fun _ _ v6 => 64 - (intOf v6).toNat)
  case atStart => exact ⟨0, Nat.zero_le _, rfl, by simp, rfl⟩
  case round =>
    obtain ⟨i, hi, rfl, rfl, rfl⟩ := hrel
    have hq : v / 2 ^ i ≤ v := Nat.div_le_self _ _
    generalize hx : v / 2 ^ i = x at *
    by_cases hlt : i < N
    · have c1 : (i : Int) < n := by omega
      have c2 : (i : Int) < 64 := by omega
      have hz : (bstr (msb v i)).size = i := by rw [bstr_size, msb_length]
      by_cases hb : x % 2 = 1
      · have hb' : ((x : Int) % 2 == 1) = true := by simp; omega
        go_wp2
        go_round
        case rel => exact ⟨i + 1, by omega, by go_num, by rw [Nat.pow_succ, ← Nat.div_div_eq_div_mul, hx]; go_num, by rw [bstr_one, msb_cons, hx, hb]; rfl⟩
        case measure => simp [intOf]; omega
      · have hb' : ((x : Int) % 2 == 1) = false := by simp; omega
        go_wp2
        go_round
        case rel => exact ⟨i + 1, by omega, by go_num, by rw [Nat.pow_succ, ← Nat.div_div_eq_div_mul, hx]; go_num, by rw [bstr_zero, msb_cons, hx]; simp [hb]⟩
        case measure => simp [intOf]; omega
    · obtain rfl : i = N := by omega
      by_cases c1 : (i : Int) < n
      · have c2 : ¬ (i : Int) < 64 := by omega
        go_wp2
        go_ret
        exact ⟨rfl, rfl⟩
      · go_wp2
        go_ret
        exact ⟨rfl, rfl⟩
theorem take_snocB (b : List Bool) (i : Nat) (h : i < b.length) : b.take (i + 1) = b.take i ++ [b[i]] := by
  rw [List.take_add_one, List.getElem?_eq_getElem h]; rfl
theorem numB_step (b : List Bool) (i : Nat) (h : i < b.length) : numB (b.take (i + 1)) = 2 * numB (b.take i) + b[i].toNat := by
  rw [take_snocB b i h, numB_snoc]
set_option maxHeartbeats 400000 in
theorem rnumber_any (b : List Bool) (w : World) (hb : b.length ≤ 64) :
    Calls Tryd.prog 38 #[.string (bstr b)] w fun e w' => e = .returned (.int .u64 (numB b : Nat)) ∧ w = w' := by
  have hz := bstr_size b
  generalize hl : b.length = l at *
  go_enter Tryd.func38, Tryd.ntmps38
  go_wp2
  go_loop [3, 4] (fun v3 v4 => ∃ i : Nat, i ≤ l ∧ v4 = .int .i64 i ∧ v3 = .int .u64 (numB (b.take i) : Nat)) (fun _ v4 => 64 - (intOf v4).toNat)
  case atStart => exact ⟨0, Nat.zero_le _, rfl, rfl⟩
  case round =>
    obtain ⟨i, hi, rfl, rfl⟩ := hrel
    by_cases hlt : i < l
    · have hbi : i < (bstr b).size := by omega
      have hxl := numB_take_lt b i
      have hp : (2 : Nat) ^ i ≤ 2 ^ 63 := Nat.pow_le_pow_right (by omega) (by omega)
      have hx : numB (b.take i) < 9223372036854775808 := Nat.lt_of_lt_of_le hxl hp
      have hstep := numB_step b i (by omega)
      have hge := congrArg (fun x : UInt8 => ((x.toNat : Int) == 49)) (bstr_get b i hbi)
      simp only [chr_one] at hge
      generalize b[i]'(by omega) = y at hge hstep
      generalize numB (b.take i) = x at *
      have w1 : IntKind.u64.wrap ((x : Int) * 2) = (x : Int) * 2 := IntWalk.u64_in _ (by omega)
      have w2 : IntKind.u64.wrap ((x : Int) * 2 + 1) = (x : Int) * 2 + 1 := IntWalk.u64_in _ (by omega)
      clear hxl hp
      have HS := Lib.hid hstep
      clear hstep
      cases y
      · go_wp2
        go_round
        case rel => exact ⟨i + 1, by omega, by go_num, by rw [HS.out]; simp; omega⟩
        case measure => simp [intOf]; omega
      · go_wp2
        go_round
        case rel => exact ⟨i + 1, by omega, by go_num, by rw [HS.out]; simp; omega⟩
        case measure => simp [intOf]; omega
    · obtain rfl : i = l := by omega
      go_wp2
      go_ret
      refine ⟨?_, rfl⟩
      rw [List.take_of_length_le (by omega)]
      rfl
set_option maxHeartbeats 400000 in
theorem rclean_any (b : List Bool) (w : World) (hb : b.length ≤ 1099511627776) :
    Calls Tryd.prog 26 #[.string (bstr b)] w fun e w' => e = .returned (.bool (b.all (! ·) && decide (b.length < 8))) ∧ w = w' := by
  have hz := bstr_size b
  generalize hl : b.length = l at *
  go_enter Tryd.func26, Tryd.ntmps26
  go_wp2
  go_loop [3] (fun v3 => ∃ i : Nat, i ≤ l ∧ v3 = .int .i64 i ∧ (b.take i).all (! ·) = true) (fun v3 => l - (intOf v3).toNat)
  case atStart => exact ⟨0, Nat.zero_le _, rfl, rfl⟩
  case round =>
    obtain ⟨i, hi, rfl, hall⟩ := hrel
    by_cases hlt : i < l
    · have hbi : i < (bstr b).size := by omega
      have hsn := take_snocB b i (by omega)
      have hge := congrArg (fun x : UInt8 => ((x.toNat : Int) != 48)) (bstr_get b i hbi)
      simp only [chr_nz] at hge
      have hmem : b[i]'(by omega) ∈ b := List.getElem_mem _
      generalize b[i]'(by omega) = y at hge hsn hmem
      have HS := Lib.hid (And.intro hsn (And.intro hall hmem))
      clear hsn hall hmem
      cases y
      · go_wp2
        go_round
        case rel => exact ⟨i + 1, by omega, by go_num, by rw [HS.out.1, List.all_append, HS.out.2.1]; rfl⟩
        case measure => simp [intOf]; omega
      · go_wp2
        go_ret
        refine ⟨?_, rfl⟩
        have e : b.all (! ·) = false := by
          rw [List.all_eq_false]
          exact ⟨true, HS.out.2.2, by decide⟩
        rw [e]; rfl
    · obtain rfl : i = l := by omega
      rw [List.take_of_length_le (by omega)] at hall
      have HA := Lib.hid hall
      clear hall
      go_wp2
      go_ret
      refine ⟨?_, rfl⟩
      rw [HA.out, Bool.true_and]
      rw [show decide (i < 8) = decide ((i : Int) < 8) by rw [decide_eq_decide]; omega]
      rfl
theorem take_snocU (s : ByteArray) (k : Nat) (h : k < s.size) : s.data.toList.take (k + 1) = s.data.toList.take k ++ [s[k]] := by
  have hl : k < s.data.toList.length := by simpa using h
  rw [List.take_add_one, List.getElem?_eq_getElem hl]
  simp [ByteArray.getElem_eq_getElem_data]
set_option maxHeartbeats 400000 in
theorem rof_any (s : ByteArray) (w : World) (hs : s.size ≤ 68719476736) :
    Calls Tryd.prog 23 #[.string s] w fun e w' => e = .returned (.string (bstr (unpack s.data.toList))) ∧ w = w' := by
  go_enter Tryd.func23, Tryd.ntmps23
  go_wp2
  go_loop [3, 4] (fun v3 v4 => ∃ i : Nat, i ≤ s.size ∧ v4 = .int .i64 i ∧ v3 = .string (bstr (unpack (s.data.toList.take i)))) (fun _ v4 => s.size - (intOf v4).toNat)
  case atStart => exact ⟨0, Nat.zero_le _, rfl, rfl⟩
  case round =>
    obtain ⟨i, hi, rfl, rfl⟩ := hrel
    by_cases hlt : i < s.size
    · have hsn := take_snocU s i hlt
      have hz : (bstr (unpack (s.data.toList.take i))).size = 8 * i := by rw [bstr_size, unpack_length]; simp; omega
      have hx : (s[i]).toNat < 256 := (s[i]).toNat_lt
      have w1 : IntKind.u64.wrap ((s[i]).toNat : Int) = ((s[i]).toNat : Int) := IntWalk.u64_in _ (by omega)
      have hz2 : (bstr (msb (s[i]).toNat 8)).size = 8 := by rw [bstr_size, msb_length]
      have HS := Lib.hid hsn
      clear hsn
      go_wp2_with (go_at_call 35; refine (rbits_any (s[i]).toNat 8 _ (by omega) (by omega)).mono ?_; rintro e w' ⟨rfl, rfl⟩; rw [show within 8 = 8 from rfl])
      go_round
      case rel => exact ⟨i + 1, by omega, by go_num, by rw [HS.out, unpack_append, bstr_append, unpack_cons]; simp [unpack]⟩
      case measure => simp [intOf]; omega
    · obtain rfl : i = s.size := by omega
      go_wp2
      go_ret
      refine ⟨?_, rfl⟩
      rw [List.take_of_length_le (by simp)]
      rfl
theorem elem_u8 : Elem Tryd.prog 5 (.int .u8 0) 1 1 := by unfold Elem; kernel_rfl
set_option maxHeartbeats 1000000 in
theorem rbytes_any (b : List Bool) (w : World) (hb : b.length ≤ 1099511627776) :
    Calls Tryd.prog 29 #[.string (bstr b)] w fun e w' => e = .returned (.string ⟨(pack b).toArray⟩) ∧ Below w.heap.size w w' := by
  generalize hl : b.length = l at *
  go_enter Tryd.func29, Tryd.ntmps29
  go_wp2
  go_loop [0] (fun v0 => ∃ k : Nat, k ≤ (8 - l % 8) % 8 ∧ v0 = .string (bstr (b ++ List.replicate k false))) (fun v0 => match v0 with | .string s => (8 - s.size % 8) % 8 | _ => 0)
  case atStart => exact ⟨0, Nat.zero_le _, by simp⟩
  case round =>
    obtain ⟨k, hk, rfl⟩ := hrel
    obtain ⟨q, hq⟩ : ∃ q, l + k = q := ⟨_, rfl⟩
    have hz : (bstr (b ++ List.replicate k false)).size = q := by rw [bstr_size, List.length_append, hl, List.length_replicate, hq]
    by_cases hlt : k < (8 - l % 8) % 8
    · have hq8 : ¬ (q : Int) % 8 = 0 := by omega
      have hr : ((q : Int) % 8 != 0) = true := by simp [hq8]
      go_wp2
      go_round
      case rel => exact ⟨k + 1, by omega, by rw [bstr_more, List.append_assoc, ← List.replicate_succ']⟩
      case measure =>
        show (8 - (bstr (b ++ List.replicate k false) ++ (⟨#[48]⟩ : ByteArray)).size % 8) % 8 < (8 - (bstr (b ++ List.replicate k false)).size % 8) % 8
        rw [bstr_more, bstr_size, List.length_append, ← bstr_size, hz, List.length_singleton]
        omega
    · have hq8 : (q : Int) % 8 = 0 := by omega
      have hr : ((q : Int) % 8 != 0) = false := by simp [hq8]
      have hpad := pack_pad b k (by omega) (by omega)
      have hlen : (b ++ List.replicate k false).length = q := by rw [List.length_append, hl, List.length_replicate, hq]
      have HP := Lib.hid hpad
      clear hpad
      generalize b ++ List.replicate k false = c at *
      go_wp2
      have hq2 : q ≤ 1099511627784 := by omega
      clear hr hq hk hlt hl hb
      have hqn : q % 8 = 0 := by omega
      go_loopw [3, 4] (fun v3 v4 wr => ∃ p : Nat, p ≤ q ∧ p % 8 = 0 ∧ v4 = .int .i64 p ∧ wr.ownsRow w.heap.size 5 1 v3 (p / 8) (byteCells ((pack c).take (p / 8))) ∧ Below w.heap.size w wr) (fun _ v4 _ => q - (intOf v4).toNat)
      case atStart => exact ⟨0, Nat.zero_le _, rfl, rfl, World.ownsRow_nil _ _ _ _, Below.refl _ _⟩
      case round =>
        obtain ⟨p, hp, hp8, rfl, hown, hb⟩ := hrel
        by_cases hlt : p < q
        · have hsl := slice_mid (P := Tryd.prog) Tryd.underlying9 (bstr c) (p : Int) ((p : Int) + 8) p (p + 8) rfl (by omega) (by omega) (by omega)
          rw [bstr_extract, Nat.add_sub_cancel_left] at hsl
          have hpt := pack_take c (p / 8) (by omega)
          rw [show 8 * (p / 8) = p by omega] at hpt
          have hdl : ((c.drop p).take 8).length = 8 := by rw [List.length_take, List.length_drop]; omega
          have hdx := numB_lt ((c.drop p).take 8)
          rw [hdl] at hdx
          generalize (c.drop p).take 8 = d at *
          obtain ⟨x, hx⟩ : ∃ x, numB d = x := ⟨_, rfl⟩
          rw [hx] at hdx hpt
          have HX := Lib.hid (And.intro hx (And.intro hdl hpt))
          clear hx hdl hpt
          have hx256 : x < 256 := hdx
          clear hdx
          go_wp2_with (first | (go_at_call 38; refine (rnumber_any d _ (by rw [HX.out.2.1]; omega)).mono ?_; rintro e w' ⟨rfl, rfl⟩; rw [HX.out.1]) | (at_builtin; go_must (refine wpList_append_one rfl _ _ 55 rfl w.heap.size 5 (.int .u8 0) 1 1 Tryd.underlying55 elem_u8 rfl (by decide) wr hown rfl _ rfl rfl (one1 rfl) (by omega) (by omega) hb.size ?_); intro v' w' hown' hb' hz'; clear hown))
          go_roundw
          case rel =>
            refine ⟨p + 8, by omega, by omega, by go_num, ?_, hb.trans hb'⟩
            rw [show (p + 8) / 8 = p / 8 + 1 by omega, HX.out.2.2, byteCells_append]
            have e2 : byteCells [UInt8.ofNat x] = [Value.int .u8 (x : Int)] := by simp [byteCells]; omega
            rw [e2]; exact hown'
          case measure => simp [intOf]; omega
        · obtain rfl : p = q := by omega
          have htl : (pack c).take (p / 8) = pack c := List.take_of_length_le (by rw [pack_length]; omega)
          rw [htl] at hown
          have hconv := conv_owned (P := Tryd.prog) (src := 55) (dst := 9) Tryd.underlying55 Tryd.underlying5 Tryd.underlying9 hown
          clear hown htl
          go_wp2
          go_ret
          refine ⟨?_, hb⟩
          rw [← HP.out]
          rfl
end Go.Proofs.YtboomamnenonoaaDoor.BitsW
