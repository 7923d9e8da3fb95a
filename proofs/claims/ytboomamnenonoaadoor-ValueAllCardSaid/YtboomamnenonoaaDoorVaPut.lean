/-
  VALUES AS BITS: Put, Cost, WALKED.
-/
import Derived.Test.YtboomamnenonoaaDoorVaWalk
import Derived.Laws.Bits64
namespace Go.Proofs.YtboomamnenonoaaDoor.VaW
set_option linter.unusedVariables false
open Go.RowKit Go.Shelf BitsM BitsW VaM
theorem put_way (s : Sv) (v : Nat) (hs : okV s) (hv : v < 18446744073709551616) :
    aftV s v = (s.1 + 1, v, wayL s (v ^^^ s.2.1), wayT s (v ^^^ s.2.1)) ∧ wayL s (v ^^^ s.2.1) + wayT s (v ^^^ s.2.1) ≤ 64 ∧
    ((wayN s (v ^^^ s.2.1) = 0 ∧ putV s v = msb v 64) ∨ (wayN s (v ^^^ s.2.1) = 1 ∧ putV s v = [false]) ∨
      (wayN s (v ^^^ s.2.1) = 2 ∧ putV s v = [true, false] ++ msb ((v ^^^ s.2.1) / 2 ^ wayT s (v ^^^ s.2.1)) (64 - wayL s (v ^^^ s.2.1) - wayT s (v ^^^ s.2.1))) ∨
      (wayN s (v ^^^ s.2.1) = 3 ∧ wayL s (v ^^^ s.2.1) + wayT s (v ^^^ s.2.1) ≤ 63 ∧ putV s v = [true, true] ++ msb (wayL s (v ^^^ s.2.1)) 6 ++ msb (63 - wayL s (v ^^^ s.2.1) - wayT s (v ^^^ s.2.1)) 6 ++ msb ((v ^^^ s.2.1) / 2 ^ wayT s (v ^^^ s.2.1)) (64 - wayL s (v ^^^ s.2.1) - wayT s (v ^^^ s.2.1)))) := by
  have hx := xor_lt hv hs.1
  have hw := okW_size hs.2
  have hn := fun h => win_new (v ^^^ s.2.1) hx h
  unfold putV aftV wayL wayT wayN
  generalize v ^^^ s.2.1 = x at *
  by_cases h0 : s.1 = 0
  · exact ⟨by simp [h0], by simp [h0]; exact hw, .inl ⟨by simp [h0], by simp [h0]⟩⟩
  by_cases hx0 : x = 0
  · exact ⟨by simp [h0, hx0], by simp [h0, hx0]; exact hw, .inr (.inl ⟨by simp [h0, hx0], by simp [h0, hx0]⟩)⟩
  by_cases hi : inB s x = true
  · exact ⟨by simp [h0, hx0, hi], by simp [h0, hx0, hi]; exact hw, .inr (.inr (.inl ⟨by simp [h0, hx0, hi], by simp [h0, hx0, hi]⟩))⟩
  · obtain ⟨n1, n2⟩ := hn hx0
    exact ⟨by simp [h0, hx0, hi], by simp [h0, hx0, hi]; omega, .inr (.inr (.inr ⟨by simp [h0, hx0, hi], by simp [h0, hx0, hi]; omega, by simp [h0, hx0, hi]⟩))⟩
theorem box_v (w : World) (s : Sv) : (w.alloc (VaObj s)).heap.size = w.heap.size + 1 := by simp
theorem shr_nat (x c : Nat) : (x : Int) / 2 ^ ((c : Nat) : Int).toNat = ((x / 2 ^ c : Nat) : Int) := by
  rw [Int.toNat_natCast, Int.natCast_ediv, Int.natCast_pow]; rfl
set_option maxHeartbeats 4000000 in
theorem put_val (bw : Nat) (rb0 : Option Nat) (b0 : List Bool) (s : Sv) (v : Nat) (w : World) (hw : WriterAt w bw rb0 b0) (hb : b0.length + 200 ≤ 1099511627776) (hs : okV s) (hv : v < 18446744073709551616) (hN : s.1 ≤ 4398046511104) (hT : Tab w) :
    Calls Tryd.prog 18 #[.pointer (some ⟨bw, 0, none⟩), .agg #[.int .i64 (s.1 : Int), .int .u64 (s.2.1 : Int), .int .i64 (s.2.2.1 : Int), .int .i64 (s.2.2.2 : Int)], .int .u64 (v : Int)] w fun e w' => e = .returned (.agg #[.int .i64 ((aftV s v).1 : Int), .int .u64 ((aftV s v).2.1 : Int), .int .i64 ((aftV s v).2.2.1 : Int), .int .i64 ((aftV s v).2.2.2 : Int)]) ∧ Wrote w bw rb0 (b0 ++ putV s v) w' := by
  have HP := Lib.hid (((PM.start hw).alloc (VaObj s)).alloc (VaObj (0, 0, 0, 0)))
  obtain ⟨ea, hLT, hway⟩ := put_way s v hs hv
  rw [ea]
  have hx := xor_lt hv hs.1
  have HV := Lib.hid (fun W => valid_ok s W hs)
  have HOF := Lib.hid (fun W h => of_any s (v ^^^ s.2.1) W hs hx h)
  have HTT : Hid (∀ W, Below w.heap.size w W → Tab W) := Lib.hid fun W h => hT.later h
  have hxr := bits_xor_u64_nat v s.2.1 hv hs.1
  clear hw hT hs ea
  obtain ⟨N, V, L, T⟩ := s
  simp only [] at HV HOF hxr hway hLT hN hx ⊢
  generalize v ^^^ V = x at *
  generalize putV (N, V, L, T) v = pb at *
  generalize wayN (N, V, L, T) x = wn at *
  generalize wayL (N, V, L, T) x = a at *
  generalize wayT (N, V, L, T) x = c at *
  rcases hway with ⟨rfl, hpb⟩ | ⟨rfl, hpb⟩ | ⟨rfl, hpb⟩ | ⟨rfl, h63, hpb⟩ <;> have HPB := Lib.hid hpb <;> clear hpb
  · have eN : ((N + 1 : Nat) : Int) = (N : Int) + 1 := by omega
    rw [eN]
    clear eN
    go_enter Tryd.func18, Tryd.ntmps18
    go_wp2_with fail
    refine (HV.out _).mono ?_
    rintro e w1 ⟨rfl, hb1⟩
    have HP1 := Lib.hid (HP.out.below hb1)
    have HB1 := Lib.hid (show Below w.heap.size w w1 from (((Below.refl _ _).alloc (Nat.le_refl _) _).alloc (by simp) _).trans (hb1.mono (by simp; omega)))
    clear hb1 HP HV
    have hbox : VaAt w1 w.heap.size (N, V, L, T) := HP1.out.at_ (by simp)
    have c0 := hbox.c0
    have c1 := hbox.c1
    have c2 := hbox.c2
    have c3 := hbox.c3
    clear hbox
    go_wp2_with fail
    refine (HOF.out _ (HTT.out _ HB1.out)).mono ?_
    rintro e w2 ⟨rfl, hb2⟩
    have HP2 := Lib.hid (HP1.out.below hb2)
    clear hb2 HP1 HOF HTT c0 c1 c2 c3 hxr HB1
    go_wp2_with fail
    refine (HP2.out.put (by omega) (v : Int) 64 (by omega) (by omega)).mono ?_
    rintro e w9 ⟨rfl, p9⟩
    rw [Int.toNat_natCast, show within 64 = 64 from rfl, ← HPB.out] at p9
    have HP9 := Lib.hid p9
    clear p9 HP2
    have hbox : VaAt w9 w.heap.size (N, V, L, T) := HP9.out.at_ (by simp)
    have d0 := hbox.c0
    simp only [] at d0
    have hres : VaAt w9 (w.heap.size + 1) (0, 0, 0, 0) := HP9.out.at_ (by rw [box_v]; simp)
    clear hbox
    go_wp2_with (refine wpList_store_row rfl 31 _ _ rfl (w.heap.size + 1) #[.int .i64 ((N : Int) + 1), .int .u64 (v : Int), .int .i64 (a : Int), .int .i64 (c : Int)] rfl rfl 31 _ hres info_va rfl (by simp [Value.oneCell']) ?_)
    have hr2 : (w9.setRow (w.heap.size + 1) #[.int .i64 ((N : Int) + 1), .int .u64 (v : Int), .int .i64 (a : Int), .int .i64 (c : Int)]).heap[w.heap.size + 1]? = some (.cells #[.int .i64 ((N : Int) + 1), .int .u64 (v : Int), .int .i64 (a : Int), .int .i64 (c : Int)] 31 (0, 0)) := setRow_heap w9 _ _ _ _ _ hres
    exact bodyPost_ret (v := .agg #[.int .i64 ((N : Int) + 1), .int .u64 (v : Int), .int .i64 (a : Int), .int .i64 (c : Int)]) (results_cell_row (Tryd.results18) _ _ (w.heap.size + 1) 31 _ (0, 0) _ rfl hr2 Tryd.underlying31 rfl info_va) rfl ⟨rfl, (HP9.out.setRow (o := VaObj (0, 0, 0, 0)) (by rw [box_v]; simp) _).wrote⟩
  · have eN : ((N + 1 : Nat) : Int) = (N : Int) + 1 := by omega
    rw [eN]
    clear eN
    go_enter Tryd.func18, Tryd.ntmps18
    go_wp2_with fail
    refine (HV.out _).mono ?_
    rintro e w1 ⟨rfl, hb1⟩
    have HP1 := Lib.hid (HP.out.below hb1)
    have HB1 := Lib.hid (show Below w.heap.size w w1 from (((Below.refl _ _).alloc (Nat.le_refl _) _).alloc (by simp) _).trans (hb1.mono (by simp; omega)))
    clear hb1 HP HV
    have hbox : VaAt w1 w.heap.size (N, V, L, T) := HP1.out.at_ (by simp)
    have c0 := hbox.c0
    have c1 := hbox.c1
    have c2 := hbox.c2
    have c3 := hbox.c3
    clear hbox
    go_wp2_with fail
    refine (HOF.out _ (HTT.out _ HB1.out)).mono ?_
    rintro e w2 ⟨rfl, hb2⟩
    have HP2 := Lib.hid (HP1.out.below hb2)
    clear hb2 HP1 HOF HTT c0 c1 c2 c3 hxr HB1
    go_wp2_with fail
    refine (HP2.out.put (by omega) 0 1 (by omega) (by omega)).mono ?_
    rintro e w9 ⟨rfl, p9⟩
    have HP9 := Lib.hid (show PM w w9 bw rb0 (b0 ++ pb) _ by rw [HPB.out]; exact p9)
    clear p9 HP2
    have hbox : VaAt w9 w.heap.size (N, V, L, T) := HP9.out.at_ (by simp)
    have d0 := hbox.c0
    simp only [] at d0
    have hres : VaAt w9 (w.heap.size + 1) (0, 0, 0, 0) := HP9.out.at_ (by rw [box_v]; simp)
    clear hbox
    go_wp2_with (refine wpList_store_row rfl 31 _ _ rfl (w.heap.size + 1) #[.int .i64 ((N : Int) + 1), .int .u64 (v : Int), .int .i64 (a : Int), .int .i64 (c : Int)] rfl rfl 31 _ hres info_va rfl (by simp [Value.oneCell']) ?_)
    have hr2 : (w9.setRow (w.heap.size + 1) #[.int .i64 ((N : Int) + 1), .int .u64 (v : Int), .int .i64 (a : Int), .int .i64 (c : Int)]).heap[w.heap.size + 1]? = some (.cells #[.int .i64 ((N : Int) + 1), .int .u64 (v : Int), .int .i64 (a : Int), .int .i64 (c : Int)] 31 (0, 0)) := setRow_heap w9 _ _ _ _ _ hres
    exact bodyPost_ret (v := .agg #[.int .i64 ((N : Int) + 1), .int .u64 (v : Int), .int .i64 (a : Int), .int .i64 (c : Int)]) (results_cell_row (Tryd.results18) _ _ (w.heap.size + 1) 31 _ (0, 0) _ rfl hr2 Tryd.underlying31 rfl info_va) rfl ⟨rfl, (HP9.out.setRow (o := VaObj (0, 0, 0, 0)) (by rw [box_v]; simp) _).wrote⟩
  · have eN : ((N + 1 : Nat) : Int) = (N : Int) + 1 := by omega
    obtain ⟨q, hqq⟩ : ∃ q, x / 2 ^ c = q := ⟨_, rfl⟩
    have hsh : (x : Int) / 2 ^ ((c : Nat) : Int).toNat = ((q : Nat) : Int) := by rw [← hqq]; exact shr_nat x c
    have hsh2 : (x : Int) / 2 ^ c = ((q : Nat) : Int) := by rw [← hsh, Int.toNat_natCast]
    have hq : q < 18446744073709551616 := by rw [← hqq]; exact Nat.lt_of_le_of_lt (Nat.div_le_self _ _) hx
    have hpb2 := HPB.out
    rw [hqq] at hpb2
    clear HPB hqq
    have HPB := Lib.hid hpb2
    clear hpb2
    rw [eN]
    clear eN
    go_enter Tryd.func18, Tryd.ntmps18
    go_wp2_with fail
    refine (HV.out _).mono ?_
    rintro e w1 ⟨rfl, hb1⟩
    have HP1 := Lib.hid (HP.out.below hb1)
    have HB1 := Lib.hid (show Below w.heap.size w w1 from (((Below.refl _ _).alloc (Nat.le_refl _) _).alloc (by simp) _).trans (hb1.mono (by simp; omega)))
    clear hb1 HP HV
    have hbox : VaAt w1 w.heap.size (N, V, L, T) := HP1.out.at_ (by simp)
    have c0 := hbox.c0
    have c1 := hbox.c1
    have c2 := hbox.c2
    have c3 := hbox.c3
    clear hbox
    go_wp2_with fail
    refine (HOF.out _ (HTT.out _ HB1.out)).mono ?_
    rintro e w2 ⟨rfl, hb2⟩
    have HP2 := Lib.hid (HP1.out.below hb2)
    clear hb2 HP1 HOF HTT c0 c1 c2 c3 hxr HB1
    go_wp2_with fail
    refine (HP2.out.put (by omega) 2 2 (by omega) (by omega)).mono ?_
    rintro e w8 ⟨rfl, p8⟩
    have HP8 := Lib.hid (show PM w w8 bw rb0 (b0 ++ [true, false]) _ from p8)
    clear p8 HP2
    go_wp2_with fail
    have hwi : (within (64 - (a : Int) - (c : Int))) = 64 - a - c := by unfold within; omega
    go_wp2_with fail
    refine (HP8.out.put (by rw [List.length_append]; show b0.length + 2 + 64 ≤ _; omega) (q : Int) (64 - (a : Int) - (c : Int)) (by omega) (by omega)).mono ?_
    rintro e w9 ⟨rfl, p9⟩
    rw [hwi, Int.toNat_natCast, List.append_assoc, ← HPB.out] at p9
    have HP9 := Lib.hid p9
    clear p9 HP8 hwi
    have hbox : VaAt w9 w.heap.size (N, V, L, T) := HP9.out.at_ (by simp)
    have d0 := hbox.c0
    simp only [] at d0
    have hres : VaAt w9 (w.heap.size + 1) (0, 0, 0, 0) := HP9.out.at_ (by rw [box_v]; simp)
    clear hbox
    go_wp2_with (refine wpList_store_row rfl 31 _ _ rfl (w.heap.size + 1) #[.int .i64 ((N : Int) + 1), .int .u64 (v : Int), .int .i64 (a : Int), .int .i64 (c : Int)] rfl rfl 31 _ hres info_va rfl (by simp [Value.oneCell']) ?_)
    have hr2 : (w9.setRow (w.heap.size + 1) #[.int .i64 ((N : Int) + 1), .int .u64 (v : Int), .int .i64 (a : Int), .int .i64 (c : Int)]).heap[w.heap.size + 1]? = some (.cells #[.int .i64 ((N : Int) + 1), .int .u64 (v : Int), .int .i64 (a : Int), .int .i64 (c : Int)] 31 (0, 0)) := setRow_heap w9 _ _ _ _ _ hres
    exact bodyPost_ret (v := .agg #[.int .i64 ((N : Int) + 1), .int .u64 (v : Int), .int .i64 (a : Int), .int .i64 (c : Int)]) (results_cell_row (Tryd.results18) _ _ (w.heap.size + 1) 31 _ (0, 0) _ rfl hr2 Tryd.underlying31 rfl info_va) rfl ⟨rfl, (HP9.out.setRow (o := VaObj (0, 0, 0, 0)) (by rw [box_v]; simp) _).wrote⟩
  · have eN : ((N + 1 : Nat) : Int) = (N : Int) + 1 := by omega
    obtain ⟨q, hqq⟩ : ∃ q, x / 2 ^ c = q := ⟨_, rfl⟩
    have hsh : (x : Int) / 2 ^ ((c : Nat) : Int).toNat = ((q : Nat) : Int) := by rw [← hqq]; exact shr_nat x c
    have hsh2 : (x : Int) / 2 ^ c = ((q : Nat) : Int) := by rw [← hsh, Int.toNat_natCast]
    have hq : q < 18446744073709551616 := by rw [← hqq]; exact Nat.lt_of_le_of_lt (Nat.div_le_self _ _) hx
    have hpb2 := HPB.out
    rw [hqq] at hpb2
    clear HPB hqq
    have HPB := Lib.hid hpb2
    clear hpb2
    rw [eN]
    clear eN
    go_enter Tryd.func18, Tryd.ntmps18
    go_wp2_with fail
    refine (HV.out _).mono ?_
    rintro e w1 ⟨rfl, hb1⟩
    have HP1 := Lib.hid (HP.out.below hb1)
    have HB1 := Lib.hid (show Below w.heap.size w w1 from (((Below.refl _ _).alloc (Nat.le_refl _) _).alloc (by simp) _).trans (hb1.mono (by simp; omega)))
    clear hb1 HP HV
    have hbox : VaAt w1 w.heap.size (N, V, L, T) := HP1.out.at_ (by simp)
    have c0 := hbox.c0
    have c1 := hbox.c1
    have c2 := hbox.c2
    have c3 := hbox.c3
    clear hbox
    go_wp2_with fail
    refine (HOF.out _ (HTT.out _ HB1.out)).mono ?_
    rintro e w2 ⟨rfl, hb2⟩
    have HP2 := Lib.hid (HP1.out.below hb2)
    clear hb2 HP1 HOF HTT c0 c1 c2 c3 hxr HB1
    have HBB := Lib.hid (show (64 - (a : Int) - (c : Int) - 1) = ((63 - a - c : Nat) : Int) ∧ (within (64 - (a : Int) - (c : Int))) = 64 - a - c from ⟨by omega, by unfold within; omega⟩)
    go_wp2_with fail
    refine (HP2.out.put (by omega) 3 2 (by omega) (by omega)).mono ?_
    rintro e w6 ⟨rfl, p6⟩
    have HP6 := Lib.hid (show PM w w6 bw rb0 (b0 ++ [true, true]) _ from p6)
    clear p6 HP2
    go_wp2_with fail
    refine (HP6.out.put (by rw [List.length_append]; show b0.length + 2 + 64 ≤ _; omega) (a : Int) 6 (by omega) (by omega)).mono ?_
    rintro e w7 ⟨rfl, p7⟩
    rw [Int.toNat_natCast, show within 6 = 6 from rfl, List.append_assoc] at p7
    have HP7 := Lib.hid p7
    clear p7 HP6
    go_wp2_with fail
    refine (HP7.out.put (by simp only [List.length_append, msb_length]; show b0.length + (2 + 6) + 64 ≤ _; omega) (64 - (a : Int) - (c : Int) - 1) 6 (by omega) (by omega)).mono ?_
    rintro e w8 ⟨rfl, p8⟩
    rw [HBB.out.1, Int.toNat_natCast, show within 6 = 6 from rfl, List.append_assoc] at p8
    have HP8 := Lib.hid p8
    clear p8 HP7
    go_wp2_with fail
    refine (HP8.out.put (by simp only [List.length_append, msb_length]; show b0.length + (2 + 6 + 6) + 64 ≤ _; omega) (q : Int) (64 - (a : Int) - (c : Int)) (by omega) (by omega)).mono ?_
    rintro e w9 ⟨rfl, p9⟩
    rw [HBB.out.2, Int.toNat_natCast, List.append_assoc, ← HPB.out] at p9
    have HP9 := Lib.hid p9
    clear p9 HP8
    have hbox : VaAt w9 w.heap.size (N, V, L, T) := HP9.out.at_ (by simp)
    have d0 := hbox.c0
    simp only [] at d0
    have hres : VaAt w9 (w.heap.size + 1) (0, 0, 0, 0) := HP9.out.at_ (by rw [box_v]; simp)
    clear hbox
    go_wp2_with (refine wpList_store_row rfl 31 _ _ rfl (w.heap.size + 1) #[.int .i64 ((N : Int) + 1), .int .u64 (v : Int), .int .i64 (a : Int), .int .i64 (c : Int)] rfl rfl 31 _ hres info_va rfl (by simp [Value.oneCell']) ?_)
    have hr2 : (w9.setRow (w.heap.size + 1) #[.int .i64 ((N : Int) + 1), .int .u64 (v : Int), .int .i64 (a : Int), .int .i64 (c : Int)]).heap[w.heap.size + 1]? = some (.cells #[.int .i64 ((N : Int) + 1), .int .u64 (v : Int), .int .i64 (a : Int), .int .i64 (c : Int)] 31 (0, 0)) := setRow_heap w9 _ _ _ _ _ hres
    exact bodyPost_ret (v := .agg #[.int .i64 ((N : Int) + 1), .int .u64 (v : Int), .int .i64 (a : Int), .int .i64 (c : Int)]) (results_cell_row (Tryd.results18) _ _ (w.heap.size + 1) 31 _ (0, 0) _ rfl hr2 Tryd.underlying31 rfl info_va) rfl ⟨rfl, (HP9.out.setRow (o := VaObj (0, 0, 0, 0)) (by rw [box_v]; simp) _).wrote⟩
/-- What a value costs. -/
theorem cost_way (s : Sv) (v : Nat) (hs : okV s) (hv : v < 18446744073709551616) :
    ((putV s v).length : Int) = if wayN s (v ^^^ s.2.1) = 0 then 64 else if wayN s (v ^^^ s.2.1) = 1 then 1 else if wayN s (v ^^^ s.2.1) = 2 then 66 - (wayL s (v ^^^ s.2.1) : Int) - (wayT s (v ^^^ s.2.1) : Int) else 78 - (wayL s (v ^^^ s.2.1) : Int) - (wayT s (v ^^^ s.2.1) : Int) := by
  obtain ⟨-, h1, h2⟩ := put_way s v hs hv
  rcases h2 with ⟨h2, h3⟩ | ⟨h2, h3⟩ | ⟨h2, h3⟩ | ⟨h2, h4, h3⟩
  · rw [h2, h3, msb_length, if_pos rfl]; rfl
  · rw [h2, h3]; rfl
  · rw [h2, h3, List.length_append, msb_length, if_neg (by decide), if_neg (by decide), if_pos rfl]; simp only [List.length_cons, List.length_nil]; omega
  · rw [h2, h3]; simp only [List.length_append, msb_length, List.length_cons, List.length_nil]; rw [if_neg (by decide), if_neg (by decide), if_neg (by decide)]; omega
set_option maxHeartbeats 4000000 in
theorem cost_any (s : Sv) (v : Nat) (w : World) (hs : okV s) (hv : v < 18446744073709551616) (hT : Tab w) :
    Calls Tryd.prog 17 #[.agg #[.int .i64 (s.1 : Int), .int .u64 (s.2.1 : Int), .int .i64 (s.2.2.1 : Int), .int .i64 (s.2.2.2 : Int)], .int .u64 (v : Int)] w fun e w' => e = .returned (.int .i64 ((putV s v).length : Nat)) ∧ Below w.heap.size w w' := by
  have hc := cost_way s v hs hv
  obtain ⟨-, hLT, hway⟩ := put_way s v hs hv
  have h3 : wayN s (v ^^^ s.2.1) = 0 ∨ wayN s (v ^^^ s.2.1) = 1 ∨ wayN s (v ^^^ s.2.1) = 2 ∨ wayN s (v ^^^ s.2.1) = 3 := by
    rcases hway with h | h | h | h
    · exact .inl h.1
    · exact .inr (.inl h.1)
    · exact .inr (.inr (.inl h.1))
    · exact .inr (.inr (.inr h.1))
  obtain ⟨z, hz⟩ : ∃ z : Int, ((putV s v).length : Int) = z := ⟨_, rfl⟩
  rw [hz] at hc ⊢
  clear hz
  have HV := Lib.hid (fun W => valid_ok s W hs)
  have HOF := Lib.hid (fun W h => of_any s (v ^^^ s.2.1) W hs (xor_lt hv hs.1) h)
  have HTT : Hid (∀ W, Below w.heap.size w W → Tab W) := Lib.hid fun W h => hT.later h
  have hxr := bits_xor_u64_nat v s.2.1 hv hs.1
  have HB0 := Lib.hid ((Below.refl w.heap.size w).alloc (Nat.le_refl _) (VaObj s))
  have hst : VaAt (w.alloc (VaObj s)) w.heap.size s := heap_alloc_new w _
  have HST := Lib.hid hst
  clear hT hs hway hst
  obtain ⟨N, V, L, T⟩ := s
  simp only [] at HV HOF hxr hLT h3 hc ⊢
  generalize v ^^^ V = x at *
  generalize wayN (N, V, L, T) x = wn at *
  generalize wayL (N, V, L, T) x = a at *
  generalize wayT (N, V, L, T) x = c at *
  have HC := Lib.hid hc
  clear hc
  go_enter Tryd.func17, Tryd.ntmps17
  go_wp2_with fail
  refine (HV.out _).mono ?_
  rintro e w1 ⟨rfl, hb1⟩
  have HB1 := Lib.hid (show Below w.heap.size w w1 from HB0.out.trans (hb1.mono (by simp)))
  have hbox : VaAt w1 w.heap.size (N, V, L, T) := HST.out.later hb1
  have c0 := hbox.c0
  have c1 := hbox.c1
  have c2 := hbox.c2
  have c3 := hbox.c3
  clear hbox hb1 HV HB0 HST
  go_wp2_with fail
  refine (HOF.out _ (HTT.out _ HB1.out)).mono ?_
  rintro e w2 ⟨rfl, hb2⟩
  have HB2 := Lib.hid (later HB1.out hb2)
  clear hb2 HB1 HOF HTT c0 c1 c2 c3 hxr
  rcases h3 with h | h | h | h
  · have hwn : ((wn : Int) == 0) = true := by simp [h]
    have e := HC.out
    rw [if_pos h] at e
    have HE := Lib.hid e
    clear h e HC
    go_wp2
    go_ret
    exact ⟨by rw [HE.out]; rfl, HB2.out⟩
  · have hwn : ((wn : Int) == 0) = false := by simp [h]
    have hwn2 : ((wn : Int) == 1) = true := by simp [h]
    have e := HC.out
    rw [if_neg (by omega), if_pos h] at e
    have HE := Lib.hid e
    clear h e HC
    go_wp2
    go_ret
    exact ⟨by rw [HE.out]; rfl, HB2.out⟩
  · have hwn : ((wn : Int) == 0) = false := by simp [h]
    have hwn2 : ((wn : Int) == 1) = false := by simp [h]
    have hwn3 : ((wn : Int) == 2) = true := by simp [h]
    have e := HC.out
    rw [if_neg (by omega), if_neg (by omega), if_pos h] at e
    have HE := Lib.hid e
    clear h e HC
    go_wp2
    go_ret
    exact ⟨by rw [HE.out]; go_num, HB2.out⟩
  · have hwn : ((wn : Int) == 0) = false := by simp [h]
    have hwn2 : ((wn : Int) == 1) = false := by simp [h]
    have hwn3 : ((wn : Int) == 2) = false := by simp [h]
    have e := HC.out
    rw [if_neg (by omega), if_neg (by omega), if_neg (by omega)] at e
    have HE := Lib.hid e
    clear h e HC
    go_wp2
    go_ret
    exact ⟨by rw [HE.out]; go_num, HB2.out⟩
end Go.Proofs.YtboomamnenonoaaDoor.VaW
