/-
  StampMoves, StampSteady: THE PLAIN LAWS, THE WALKS.
-/
import Derived.Test.YtdnipfkpfdglnaaStLawB
namespace Go.Proofs.Ytdnipfkpfdglnaa.StW
open Go.RowKit Go.Shelf BitsM BitsW StM
/-! Times that are all later by as much. -/
theorem wrap_cancel (a b c : Int) : wrap64 (wrap64 (a + c) - wrap64 (b + c)) = wrap64 (a - b) := by
  rw [wrap_subL, wrap_subR, show a + c - (b + c) = a - b by omega]
theorem moved_bits (d : Int) : ∀ (l : List Int) (N T D : Int), 1 ≤ N → N + l.length ≤ 1000000 → bitsAll (N, wrap64 (T + d), D) (l.map fun t => wrap64 (t + d)) = bitsAll (N, T, D) l
  | [], _, _, _, _, _ => rfl
  | t :: l, N, T, D, h1, h2 => by
    have h2' : N + (l.length + 1 : Nat) ≤ 1000000 := h2
    have hn : ¬ N = 0 := by omega
    have e1 : putS (N, wrap64 (T + d), D) (wrap64 (t + d)) = putS (N, T, D) t := by
      unfold putS chg; simp only [if_neg hn]; rw [wrap_cancel]
    have e2 : aftS (N, wrap64 (T + d), D) (wrap64 (t + d)) = (N + 1, wrap64 (t + d), wrap64 (t - T)) := by
      unfold aftS; simp only [if_neg hn]; rw [wrap_cancel, wrap_ok (show okI (N + 1) by unfold okI; omega)]
    have e3 : aftS (N, T, D) t = (N + 1, t, wrap64 (t - T)) := by
      unfold aftS; simp only [if_neg hn]; rw [wrap_ok (show okI (N + 1) by unfold okI; omega)]
    rw [List.map_cons]
    unfold bitsAll
    rw [e1, e2, e3, moved_bits d l (N + 1) t (wrap64 (t - T)) (by omega) (by omega)]
theorem moved_all (d : Int) (l : List Int) (h : l.length ≤ 1000) : (bitsAll s0 (l.map fun t => wrap64 (t + d))).length = (bitsAll s0 l).length ∧ (bitsAll s0 (l.map fun t => wrap64 (t + d))).drop 64 = (bitsAll s0 l).drop 64 := by
  cases l with
  | nil => exact ⟨rfl, rfl⟩
  | cons t l =>
    have hl : (l.length + 1 : Nat) ≤ 1000 := h
    rw [List.map_cons]
    show (msb (u64 (wrap64 (t + d))) 64 ++ bitsAll (1, wrap64 (t + d), 0) (l.map fun t => wrap64 (t + d))).length = (msb (u64 t) 64 ++ bitsAll (1, t, 0) l).length ∧ (msb (u64 (wrap64 (t + d))) 64 ++ bitsAll (1, wrap64 (t + d), 0) (l.map fun t => wrap64 (t + d))).drop 64 = (msb (u64 t) 64 ++ bitsAll (1, t, 0) l).drop 64
    rw [moved_bits d l 1 t 0 (by omega) (by omega)]
    have h1 := List.drop_left (l₁ := msb (u64 (wrap64 (t + d))) 64) (l₂ := bitsAll (1, t, 0) l)
    have h2 := List.drop_left (l₁ := msb (u64 t) 64) (l₂ := bitsAll (1, t, 0) l)
    rw [msb_length] at h1 h2
    rw [h1, h2]
    simp [msb_length]
theorem pack_at (b c : List Bool) (h : b.length = c.length) (hd : b.drop 64 = c.drop 64) (i : Nat) (hi : 8 ≤ i) : (pack b)[i]? = (pack c)[i]? := by
  unfold pack
  rw [List.getElem?_map, List.getElem?_map, h]
  cases he : (List.range ((c.length + 7) / 8))[i]? with
  | none => rfl
  | some j =>
    obtain ⟨hj, he⟩ := List.getElem?_eq_some_iff.1 he
    rw [List.getElem_range] at he
    subst he
    have e : 8 * i = 64 + (8 * i - 64) := by omega
    show some (byteB ((b.drop (8 * i)).take 8)) = some (byteB ((c.drop (8 * i)).take 8))
    rw [e, ← List.drop_drop, ← List.drop_drop, hd]
theorem Comes.own_i {w : World} {n : Nat} {v : Value} {l : List Int} (h : w.ownsRow n 2 1 v l.length (l.flatMap encI)) (hok : ∀ x ∈ l, okI x) : ∃ A c, v = .slice A l.length c ∧ Comes w 1 encI okI A l.length c l := by
  obtain ⟨A, c, hv, -, hc⟩ := Comes.of_own h (fun _ => rfl) (by decide) hok
  exact ⟨A, c, hv, hc⟩
set_option maxRecDepth 20000 in
set_option maxHeartbeats 4000000 in
theorem stampMoves_all (A : Option Addr) (n c : Nat) (l : List Int) (d : Int) (w : World) (hl : Comes w 1 encI okI A n c l) :
    Calls Try.prog 9 #[.slice A n c, .int .i64 d] w fun e w' => e = .returned (.bool true) ∧ Below w.heap.size w w' := by
  have HL := Lib.hid hl
  have hcap : c ≤ 9223372036854775807 := hl.cap
  have hle := hl.le
  clear hl
  go_enter Try.func9, Try.ntmps9
  go_wp2_with fail
  refine (works_any _).mono ?_
  rintro e w1 ⟨rfl, hb1⟩
  have HB1 := Lib.hid hb1
  clear hb1
  by_cases n60 : 60 < n
  · go_wp2_with fail
    go_ret
    exact ⟨rfl, HB1.out⟩
  go_wp2_with fail
  go_loopw [6, 7] (fun v6 v7 wr => ∃ k : Nat, k ≤ n ∧ v7 = .int .i64 k ∧ Below w.heap.size w wr ∧ wr.ownsRow w.heap.size 2 1 v6 k (((l.take k).map fun t => wrap64 (t + d)).flatMap encI)) (fun _ v7 _ => n - (intOf v7).toNat)
  case atStart => exact ⟨0, Nat.zero_le _, rfl, HB1.out, World.ownsRow_nil _ _ _ _⟩
  case round =>
    obtain ⟨k, hk, rfl, ho, hown⟩ := hrel
    have hln := HL.out.len
    by_cases hlt : k < n
    · have hkl : k < l.length := by omega
      obtain ⟨b, o, rfl, hcs⟩ := int_cells HL.out.lies hkl
      have hc0 := hcs _ ho
      have htk := take_snocL l k hkl
      generalize l[k] = t at *
      have i0 : (0 : Int) ≤ (k : Int) := by omega
      have i1 : (k : Int) < (n : Int) := by omega
      have HO := Lib.hid ho
      have HTK := Lib.hid htk
      clear ho hln hcs htk
      go_wp2_with (at_builtin; go_must (refine wpList_append_one rfl _ _ 47 rfl w.heap.size 2 (.int .i64 0) 1 8 Try.underlying47 elemI64 rfl (by decide) wr hown rfl _ rfl rfl (one1 rfl) (by omega) (by omega) HO.out.size ?_); intro v' w' hown' hb' hz')
      go_roundw
      case rel =>
        refine ⟨k + 1, by omega, by go_num, HO.out.trans hb', ?_⟩
        rw [HTK.out, List.map_append, List.flatMap_append]
        exact hown'
      case measure => simp [intOf]; omega
    · obtain rfl : k = n := by omega
      rw [List.take_of_length_le (by omega)] at hown
      have hml : (l.map fun t => wrap64 (t + d)).length = k := by rw [List.length_map, hln]
      rw [← hml] at hown
      obtain ⟨A2, c2, rfl, hcm⟩ := Comes.own_i hown (fun x hx => by
        obtain ⟨t, _, rfl⟩ := List.mem_map.1 hx
        exact okI_wrap _)
      rw [hml] at hcm
      obtain ⟨m1, m2⟩ := moved_all d l (by omega)
      have hpa := pack_at _ _ m1 m2
      have hz1 : (⟨(pack (bitsAll s0 (l.map fun t => wrap64 (t + d)))).toArray⟩ : ByteArray).size = (⟨(pack (bitsAll s0 l)).toArray⟩ : ByteArray).size := by
        simp only [ByteArray.size, List.size_toArray, pack_length, m1]
      have hpz := packed_size l
      rw [hln] at hpz
      have HCM := Lib.hid hcm
      have HB := Lib.hid ho
      clear hown hcm ho m1 m2
      rw [hml]
      go_wp2_with fail
      refine (all_any A k c l _ (HL.out.later HB.out) (by omega)).mono ?_
      rintro e w2 ⟨rfl, hb2⟩
      have HB2 := Lib.hid (later HB.out hb2)
      have HCM2 := Lib.hid (HCM.out.later hb2)
      clear hb2
      obtain ⟨pa, hpaa⟩ : ∃ pa, pack (bitsAll s0 l) = pa := ⟨_, rfl⟩
      obtain ⟨pb, hpb⟩ : ∃ pb, pack (bitsAll s0 (l.map fun t => wrap64 (t + d))) = pb := ⟨_, rfl⟩
      rw [hpaa] at hpa hz1 hpz ⊢
      rw [hpb] at hpa hz1
      have HPB := Lib.hid hpb
      have HPA := Lib.hid hpa
      clear hpa hpaa hpb
      go_wp2_with fail
      refine (all_any A2 k c2 _ _ HCM2.out (by omega)).mono ?_
      rintro e w3 ⟨rfl, hb3⟩
      rw [HPB.out]
      have HB3 := Lib.hid (later HB2.out hb3)
      clear hb3
      obtain ⟨q, hq⟩ : ∃ q, (⟨pa.toArray⟩ : ByteArray).size = q := ⟨_, rfl⟩
      have hqb : (⟨pb.toArray⟩ : ByteArray).size = q := hz1.trans hq
      have hix : ∀ (i : Nat) (h1 : i < (⟨pa.toArray⟩ : ByteArray).size) (h2 : i < (⟨pb.toArray⟩ : ByteArray).size), 8 ≤ i → (⟨pb.toArray⟩ : ByteArray)[i] = (⟨pa.toArray⟩ : ByteArray)[i] := by
        intro i h1 h2 h8
        have h := HPA.out i h8
        have l1 : i < pa.length := by simpa [ByteArray.size] using h1
        have l2 : i < pb.length := by simpa [ByteArray.size] using h2
        rw [List.getElem?_eq_getElem l1, List.getElem?_eq_getElem l2] at h
        injection h with h
      generalize (⟨pa.toArray⟩ : ByteArray) = sa at *
      generalize (⟨pb.toArray⟩ : ByteArray) = sb at *
      have HX := Lib.hid hix
      clear hix hz1 hml hln
      go_wp2_with fail
      go_loopw [10] (fun v10 wr => ∃ i : Nat, 8 ≤ i ∧ (i ≤ q ∨ i = 8) ∧ v10 = .int .i64 i ∧ Below w.heap.size w wr) (fun v10 _ => q - (intOf v10).toNat)
      case atStart => exact ⟨8, by omega, .inr rfl, rfl, HB3.out⟩
      case round =>
        obtain ⟨i, h8, hiq, rfl, ho⟩ := hrel
        by_cases hlt : i < q
        · have j0 : (0 : Int) ≤ (i : Int) := by omega
          have j1 : i < sa.size := by omega
          have j2 : i < sb.size := by omega
          have hx := HX.out i j1 j2 h8
          have HO := Lib.hid ho
          clear ho
          go_wp2_with fail
          go_quiet (fail)
          go_wp2_with fail
          go_roundw
          case rel => exact ⟨i + 1, by omega, by omega, by go_num, HO.out.trans ⟨rfl, rfl, rfl, Nat.le_refl _, fun _ _ => rfl⟩⟩
          case measure => simp [intOf]; omega
        · have HO := Lib.hid ho
          clear ho
          go_wp2_with fail
          go_ret
          exact ⟨rfl, HO.out⟩
end Go.Proofs.Ytdnipfkpfdglnaa.StW
