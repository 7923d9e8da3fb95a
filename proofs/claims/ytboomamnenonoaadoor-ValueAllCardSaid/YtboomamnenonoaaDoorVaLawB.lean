/-
  ValueBack, ValueTurned, ValueSteady: THE WALKS.
-/
import Derived.Test.YtboomamnenonoaaDoorVaWorks
namespace Go.Proofs.YtboomamnenonoaaDoor.VaW
set_option linter.unusedVariables false
open Go.RowKit Go.Shelf BitsM BitsW VaM
set_option maxRecDepth 20000 in
set_option maxHeartbeats 4000000 in
theorem valueBack_all (A : Option Addr) (n c : Nat) (l : List Nat) (B : ByteArray) (k : Int) (w : World) (hl : Comes w 1 encU okU A n c l) (hB : B.size ≤ maxLen) (hT : Tab w) :
    Calls Tryd.prog 4 #[.slice A n c, .string B, .int .i64 k] w fun e w' => e = .returned (.bool true) ∧ Below w.heap.size w w' := by
  have HL := Lib.hid hl
  have HTT : Hid (∀ W, Below w.heap.size w W → Tab W) := Lib.hid fun W h => hT.later h
  have hcap : c ≤ 9223372036854775807 := hl.cap
  have hle := hl.le
  have hB' : B.size ≤ 9223372036854775807 := hB
  clear hl hB hT
  go_enter Tryd.func4, Tryd.ntmps4
  go_wp2_with fail
  refine (works_any _ (HTT.out _ (Below.refl _ _))).mono ?_
  rintro e w1 ⟨rfl, hb1⟩
  have HB1 := Lib.hid hb1
  clear hb1
  by_cases n60 : 60 < n
  · go_wp2_with fail
    go_ret
    exact ⟨rfl, HB1.out⟩
  by_cases b60 : 60 < B.size
  · go_wp2_with fail
    go_ret
    exact ⟨rfl, HB1.out⟩
  go_wp2_with fail
  refine (all_any A n c l _ (HL.out.later HB1.out) (by omega) (HTT.out _ HB1.out)).mono ?_
  rintro e w2 ⟨rfl, hb2⟩
  have HB2 := Lib.hid (later HB1.out hb2)
  clear hb2
  have hback := read_back l HL.out.ok (by rw [HL.out.len]; omega)
  have hpz := packed_size l
  rw [HL.out.len] at hback hpz
  obtain ⟨sb, hsb⟩ : ∃ sb, (⟨(pack (bitsV v0 l)).toArray⟩ : ByteArray) = sb := ⟨_, rfl⟩
  rw [hsb] at hpz ⊢
  have hback' : readB (unpack sb.data.toList) (n : Int) = some l := by rw [← hsb]; exact hback
  have HBK := Lib.hid hback'
  clear hback hback' hsb
  go_wp2_with fail
  refine (read_any sb (n : Int) _ (by omega) (HTT.out _ HB2.out)).mono ?_
  rintro e w3 ⟨A3, k3, c3, rfl, hcm, hb3⟩
  rw [HBK.out] at hcm ⊢
  have HCM := Lib.hid (show Comes w3 1 encU okU A3 k3 c3 l from hcm)
  have HB3 := Lib.hid (later HB2.out hb3)
  clear hcm hb3
  go_wp2_with fail
  refine (rsame_any A3 k3 c3 l A n c l _ HCM.out (HL.out.later HB3.out)).mono ?_
  rintro e w4 ⟨rfl, hb4⟩
  rw [decide_eq_true rfl]
  have HB4 := Lib.hid (later HB3.out hb4)
  clear hb4
  go_wp2_with fail
  refine (read_any B k _ (by omega) (HTT.out _ HB4.out)).mono ?_
  rintro e w5 ⟨A5, k5, c5, rfl, hcm, hb5⟩
  have HB5 := Lib.hid (later HB4.out hb5)
  clear hb5
  cases hR : readB (unpack B.data.toList) k with
  | none =>
    clear hcm hR
    go_wp2_with fail
    go_ret
    exact ⟨rfl, HB5.out⟩
  | some y =>
    rw [hR] at hcm
    obtain ⟨h1, h2, h3, h4⟩ := read_only B k y hR
    have hkk : k5 = y.length := hcm.len.symm
    subst hkk
    have HCM5 := Lib.hid (show Comes w5 1 encU okU A5 y.length c5 y from hcm)
    have HH := Lib.hid h1
    subst h2
    clear hcm hR h1 h3
    generalize y.length = q at *
    go_wp2_with fail
    refine (all_any A5 q c5 y _ HCM5.out (by omega) (HTT.out _ HB5.out)).mono ?_
    rintro e w6 ⟨rfl, hb6⟩
    rw [HH.out]
    have HB6 := Lib.hid (later HB5.out hb6)
    clear hb6
    go_wp2_with fail
    go_ret
    exact ⟨rfl, HB6.out⟩
theorem Comes.own_u {w : World} {n : Nat} {v : Value} {l : List Nat} (h : w.ownsRow n 29 1 v l.length (l.flatMap encU)) (hok : ∀ x ∈ l, okU x) : ∃ A c, v = .slice A l.length c ∧ Comes w 1 encU okU A l.length c l := by
  obtain ⟨A, c, hv, -, hc⟩ := Comes.of_own h (fun _ => rfl) (by decide) hok
  exact ⟨A, c, hv, hc⟩
theorem Comes.own_un {w : World} {n m : Nat} {v : Value} {l : List Nat} (hm : l.length = m) (h : w.ownsRow n 29 1 v m (l.flatMap encU)) (hok : ∀ x ∈ l, okU x) : ∃ A c, v = .slice A m c ∧ Comes w 1 encU okU A m c l := by
  subst hm; exact Comes.own_u h hok
set_option maxRecDepth 20000 in
set_option maxHeartbeats 4000000 in
theorem valueTurned_all (A : Option Addr) (n c : Nat) (l : List Nat) (d : Nat) (w : World) (hl : Comes w 1 encU okU A n c l) (hd : d < 18446744073709551616) (hT : Tab w) :
    Calls Tryd.prog 6 #[.slice A n c, .int .u64 (d : Int)] w fun e w' => e = .returned (.bool true) ∧ Below w.heap.size w w' := by
  have HL := Lib.hid hl
  have HTT : Hid (∀ W, Below w.heap.size w W → Tab W) := Lib.hid fun W h => hT.later h
  have HD := Lib.hid hd
  have hcap : c ≤ 9223372036854775807 := hl.cap
  have hle := hl.le
  clear hl hT hd
  go_enter Tryd.func6, Tryd.ntmps6
  go_wp2_with fail
  refine (works_any _ (HTT.out _ (Below.refl _ _))).mono ?_
  rintro e w1 ⟨rfl, hb1⟩
  have HB1 := Lib.hid hb1
  clear hb1
  by_cases n60 : 60 < n
  · go_wp2_with fail
    go_ret
    exact ⟨rfl, HB1.out⟩
  go_wp2_with fail
  go_loopw [6, 7] (fun v6 v7 wr => ∃ k : Nat, k ≤ n ∧ v7 = .int .i64 k ∧ Below w.heap.size w wr ∧ wr.ownsRow w.heap.size 29 1 v6 k (((l.take k).map (· ^^^ d)).flatMap encU)) (fun _ v7 _ => n - (intOf v7).toNat)
  case atStart => exact ⟨0, Nat.zero_le _, rfl, HB1.out, World.ownsRow_nil _ _ _ _⟩
  case round =>
    obtain ⟨k, hk, rfl, ho, hown⟩ := hrel
    have hln := HL.out.len
    by_cases hlt : k < n
    · have hkl : k < l.length := by omega
      obtain ⟨b, o, rfl, hcs⟩ := u_cells HL.out.lies hkl
      have hc0 := hcs _ ho
      have htk := take_snocL l k hkl
      have hxr := bits_xor_u64_nat l[k] d (HL.out.ok l[k] (List.getElem_mem hkl)) HD.out
      generalize l[k] = t at *
      obtain ⟨x, hx⟩ : ∃ x, t ^^^ d = x := ⟨_, rfl⟩
      rw [hx] at hxr
      have i0 : (0 : Int) ≤ (k : Int) := by omega
      have i1 : (k : Int) < (n : Int) := by omega
      have HO := Lib.hid ho
      have HTK := Lib.hid (And.intro htk hx)
      clear ho hln hcs htk hx
      go_wp2_with (at_builtin; go_must (refine wpList_append_one rfl _ _ 22 rfl w.heap.size 29 (.int .u64 0) 1 8 Tryd.underlying22 elemU64 rfl (by decide) wr hown rfl _ rfl rfl (one1 rfl) (by omega) (by omega) HO.out.size ?_); intro v' w' hown' hb' hz')
      go_roundw
      case rel =>
        refine ⟨k + 1, by omega, by go_num, HO.out.trans hb', ?_⟩
        rw [HTK.out.1, List.map_append, List.flatMap_append, List.map_singleton, HTK.out.2]
        exact hown'
      case measure => simp [intOf]; omega
    · obtain rfl : k = n := by omega
      rw [List.take_of_length_le (by omega)] at hown
      have hml : (l.map (· ^^^ d)).length = k := by rw [List.length_map, hln]
      rw [← hml] at hown
      obtain ⟨A2, c2, rfl, hcm⟩ := Comes.own_u hown (fun x hx => by
        obtain ⟨t, ht, rfl⟩ := List.mem_map.1 hx
        exact xor_lt (HL.out.ok t ht) HD.out)
      rw [hml] at hcm
      obtain ⟨m1, m2⟩ := turned_all d l
      have hpa := pack_at _ _ m1 m2
      have hz1 : (⟨(pack (bitsV v0 (l.map (· ^^^ d)))).toArray⟩ : ByteArray).size = (⟨(pack (bitsV v0 l)).toArray⟩ : ByteArray).size := by
        simp only [ByteArray.size, List.size_toArray, pack_length, m1]
      have hpz := packed_size l
      rw [hln] at hpz
      have HCM := Lib.hid hcm
      have HB := Lib.hid ho
      clear hown hcm ho m1 m2
      rw [hml]
      go_wp2_with fail
      refine (all_any A k c l _ (HL.out.later HB.out) (by omega) (HTT.out _ HB.out)).mono ?_
      rintro e w2 ⟨rfl, hb2⟩
      have HB2 := Lib.hid (later HB.out hb2)
      have HCM2 := Lib.hid (HCM.out.later hb2)
      clear hb2
      obtain ⟨pa, hpaa⟩ : ∃ pa, pack (bitsV v0 l) = pa := ⟨_, rfl⟩
      obtain ⟨pb, hpb⟩ : ∃ pb, pack (bitsV v0 (l.map (· ^^^ d))) = pb := ⟨_, rfl⟩
      rw [hpaa] at hpa hz1 hpz ⊢
      rw [hpb] at hpa hz1
      have HPB := Lib.hid hpb
      have HPA := Lib.hid hpa
      clear hpa hpaa hpb
      go_wp2_with fail
      refine (all_any A2 k c2 _ _ HCM2.out (by omega) (HTT.out _ HB2.out)).mono ?_
      rintro e w3 ⟨rfl, hb3⟩
      rw [HPB.out]
      have HB3 := Lib.hid (later HB2.out hb3)
      clear hb3
      obtain ⟨q, hq⟩ : ∃ q, (⟨pa.toArray⟩ : ByteArray).size = q := ⟨_, rfl⟩
      have hqb : (⟨pb.toArray⟩ : ByteArray).size = q := hz1.trans hq
      have hix : ∀ (i : Nat) (h1 : i < (⟨pa.toArray⟩ : ByteArray).size) (h2 : i < (⟨pb.toArray⟩ : ByteArray).size), 8 ≤ i → (⟨pb.toArray⟩ : ByteArray)[i] = (⟨pa.toArray⟩ : ByteArray)[i] := by
        intro i h1 h2 h8
        have h := HPA.out i h8
        have l1 : i < pa.length := by simpa [ByteArray.size] using h1
        have l2 : i < pb.length := by simpa [ByteArray.size] using h2
        rw [List.getElem?_eq_getElem l1, List.getElem?_eq_getElem l2] at h
        injection h with h
      generalize (⟨pa.toArray⟩ : ByteArray) = sa at *
      generalize (⟨pb.toArray⟩ : ByteArray) = sb at *
      have HX := Lib.hid hix
      clear hix hz1 hml hln
      go_wp2_with fail
      go_loopw [10] (fun v10 wr => ∃ i : Nat, 8 ≤ i ∧ (i ≤ q ∨ i = 8) ∧ v10 = .int .i64 i ∧ Below w.heap.size w wr) (fun v10 _ => q - (intOf v10).toNat)
      case atStart => exact ⟨8, by omega, .inr rfl, rfl, HB3.out⟩
      case round =>
        obtain ⟨i, h8, hiq, rfl, ho⟩ := hrel
        by_cases hlt : i < q
        · have j0 : (0 : Int) ≤ (i : Int) := by omega
          have j1 : i < sa.size := by omega
          have j2 : i < sb.size := by omega
          have hx := HX.out i j1 j2 h8
          have HO := Lib.hid ho
          clear ho
          go_wp2_with fail
          go_quiet (fail)
          go_wp2_with fail
          go_roundw
          case rel => exact ⟨i + 1, by omega, by omega, by go_num, HO.out.trans ⟨rfl, rfl, rfl, Nat.le_refl _, fun _ _ => rfl⟩⟩
          case measure => simp [intOf]; omega
        · have HO := Lib.hid ho
          clear ho
          go_wp2_with fail
          go_ret
          exact ⟨rfl, HO.out⟩
theorem steady_bytes (v k : Nat) : (⟨(pack (bitsV v0 (List.replicate (k + 1) v))).toArray⟩ : ByteArray).size = (64 + k + 7) / 8 := by
  simp only [ByteArray.size, List.size_toArray, pack_length, same_len]
set_option maxRecDepth 20000 in
set_option maxHeartbeats 4000000 in
theorem valueSteady_all (v n : Nat) (w : World) (hv : v < 18446744073709551616) (hn : n ≤ 255) (hT : Tab w) :
    Calls Tryd.prog 7 #[.int .u64 (v : Int), .int .u8 (n : Int)] w fun e w' => e = .returned (.bool true) ∧ Below w.heap.size w w' := by
  obtain ⟨m, hm⟩ : ∃ m, n % 60 = m := ⟨_, rfl⟩
  have hmi : (n : Int) % 60 = (m : Int) := by omega
  have hm60 : m < 60 := by omega
  have HTT : Hid (∀ W, Below w.heap.size w W → Tab W) := Lib.hid fun W h => hT.later h
  have HV := Lib.hid hv
  clear hm hv hT
  go_enter Tryd.func7, Tryd.ntmps7
  go_wp2_with fail
  refine (works_any _ (HTT.out _ (Below.refl _ _))).mono ?_
  rintro e w1 ⟨rfl, hb1⟩
  have HB1 := Lib.hid hb1
  clear hb1
  go_wp2_with fail
  go_loopw [6, 7] (fun v6 v7 wr => ∃ k : Nat, k ≤ m ∧ v7 = .int .i64 k ∧ Below w.heap.size w wr ∧ wr.ownsRow w.heap.size 29 1 v6 k ((List.replicate k v).flatMap encU)) (fun _ v7 _ => m - (intOf v7).toNat)
  case atStart => exact ⟨0, Nat.zero_le _, rfl, HB1.out, World.ownsRow_nil _ _ _ _⟩
  case round =>
    obtain ⟨k, hk, rfl, ho, hown⟩ := hrel
    by_cases hlt : k < m
    · have HO := Lib.hid ho
      clear ho
      go_wp2_with (at_builtin; go_must (refine wpList_append_one rfl _ _ 22 rfl w.heap.size 29 (.int .u64 0) 1 8 Tryd.underlying22 elemU64 rfl (by decide) wr hown rfl _ rfl rfl (one1 rfl) (by omega) (by omega) HO.out.size ?_); intro v' w' hown' hb' hz')
      go_roundw
      case rel =>
        refine ⟨k + 1, by omega, by go_num, HO.out.trans hb', ?_⟩
        rw [List.replicate_succ', List.flatMap_append]
        exact hown'
      case measure => simp [intOf]; omega
    · obtain rfl : k = m := by omega
      have hml : (List.replicate k v).length = k := List.length_replicate
      obtain ⟨A2, c2, rfl, hcm⟩ := Comes.own_un (l := List.replicate k v) hml hown (fun x hx => by rw [List.eq_of_mem_replicate hx]; exact HV.out)
      have HB := Lib.hid ho
      have HCM := Lib.hid hcm
      have hkc : k ≤ c2 := by have := hcm.le; omega
      have hcc : c2 ≤ 9223372036854775807 := hcm.cap
      clear ho hcm hown hml
      by_cases h0 : k = 0
      · subst h0
        go_wp2_with fail
        refine (all_any A2 0 c2 _ _ HCM.out (by omega) (HTT.out _ HB.out)).mono ?_
        rintro e w2 ⟨rfl, hb2⟩
        have HB2 := Lib.hid (later HB.out hb2)
        clear hb2
        rw [show (⟨(pack (bitsV v0 (List.replicate 0 v))).toArray⟩ : ByteArray) = ⟨#[]⟩ by simp [bitsV, pack]]
        go_wp2_with fail
        go_ret
        exact ⟨rfl, HB2.out⟩
      · obtain ⟨j, rfl⟩ : ∃ j, k = j + 1 := ⟨k - 1, by omega⟩
        have HBY := Lib.hid (steady_bytes v j)
        have hk0 : (((j + 1 : Nat) : Int) == 0) = false := by simp; omega
        clear h0
        go_wp2_with fail
        refine (all_any A2 (j + 1) c2 _ _ HCM.out (by omega) (HTT.out _ HB.out)).mono ?_
        rintro e w2 ⟨rfl, hb2⟩
        have HB2 := Lib.hid (later HB.out hb2)
        clear hb2
        generalize (⟨(pack (bitsV v0 (List.replicate (j + 1) v))).toArray⟩ : ByteArray) = sb at *
        have hsz := HBY.out
        go_wp2_with fail
        go_ret
        have e9 : ((64 + (j : Int) + 7) / 8 == (64 + ((j : Int) + 1) - 1 + 7) / 8) = true := by simp; omega
        exact ⟨congrArg (fun b => Ending.returned (.bool b)) e9, HB2.out⟩
end Go.Proofs.YtboomamnenonoaaDoor.VaW
