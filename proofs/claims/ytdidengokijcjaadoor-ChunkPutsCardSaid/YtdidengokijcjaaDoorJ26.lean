/-
  alluviumref11.Put: THE WALK.
-/
import Derived.Test.YtdidengokijcjaaDoorJ25
import Derived.Test.YtdidengokijcjaaDoorJ20
import Derived.Test.YtdidengokijcjaaDoorJ22
/-
  alluviumref11.Put: THE WALK.
-/
namespace Go.Proofs.YtdidengokijcjaaDoor.ChW
set_option linter.unusedVariables false
open Go.RowKit FrM FrW StM ChM LabW BitsM BitsW
theorem last_at {l : List Sm} (h : okMs l) (k : Nat) (hk : k < l.length) : okI l[k].1 := (h _ (List.getElem_mem hk)).1
set_option maxRecDepth 20000 in
set_option maxHeartbeats 8000000 in
theorem rput_1 (A : Option Addr) (n c : Nat) (l : List Sm) (w : World) (hl : Comes w 2 encS okS A n c l) (hs : LabW.sortedL l = true) (hn : n ≤ 200) :
    Calls Tryd.prog 10 #[.slice A n c, .int .i64 1] w fun e w' => e = .returned (.tuple #[.string (bs (body 1 l ++ CrcM.ctail (body 1 l))), .int .i64 0]) ∧ Below w.heap.size w w' := by
  have HL := Lib.hid hl
  have hcap : c ≤ 9223372036854775807 := hl.cap
  have hle := hl.le
  have hln0 := hl.len
  have hok : okMs l := fun x hx => ok_of (hl.ok x hx)
  have HOK := Lib.hid hok
  have hbl : (body 1 l).length ≤ 100000 := wS_le (by omega)
  have KS : Hid (∀ W, Below w.heap.size w W → Calls Tryd.prog 19 #[.slice A n c] W fun e w' => e = .returned (.bool true) ∧ Below W.heap.size W w') := Lib.hid (fun W h => by have := rsorted_any A n c l W (HL.out.later h); rw [hs] at this; exact this)
  have KN : Hid (∀ W, Calls Tryd.prog 20 #[.int .u64 (n : Int)] W fun e w' => e = .returned (.string (bs (small n))) ∧ Below W.heap.size W w') := Lib.hid (fun W => rsmall_any n W (by omega))
  have KW : Hid (∀ W, Calls Tryd.prog 21 #[.int .u64 (n : Int)] W fun e w' => e = .returned (.string (bs (wide n))) ∧ Below W.heap.size W w') := Lib.hid (fun W => rwide_any n W (by omega))
  obtain ⟨S, hS⟩ : ∃ S, body 1 l = S := ⟨_, rfl⟩
  rw [hS] at hbl ⊢
  have HK : Hid (wide n ++ wS l = S) := Lib.hid (by rw [← hS, ← hln0]; rfl)
  have KT : Hid (∀ W, Calls Tryd.prog 26 #[.string (bs S)] W fun e w' => e = .returned (.string (bs (CrcM.ctail S))) ∧ Below W.heap.size W w') := Lib.hid (fun W => by
    have hz := bs_size S
    have := CrcW.rtail_any (bs S) W (by unfold maxLen; omega)
    rw [show (bs S).data.toList = S by simp [bs]] at this
    exact this)
  have hzT : (CrcM.ctail S).length = 4 := CrcM.ctail_length S
  have hzF := bs_size S
  have hzG := bs_size (CrcM.ctail S)
  have hadF : ∀ W : World, (Op.stringOp .add (bs S) (bs (CrcM.ctail S))).run Tryd.prog W = .ok (.string (bs (S ++ CrcM.ctail S))) W := fun W => by rw [← bs_append]; exact run_string_add_sum W _ _ (by omega)
  have HBL := Lib.hid hbl
  obtain ⟨ZT, hZT⟩ : ∃ Z, bs (CrcM.ctail S) = Z := ⟨_, rfl⟩
  obtain ⟨ZF, hZF⟩ : ∃ Z, bs (S ++ CrcM.ctail S) = Z := ⟨_, rfl⟩
  rw [hZT] at KT hadF
  rw [hZF] at hadF
  rw [hZF]
  clear hl hs hS hok hzT hzF hzG hbl hZT hZF
  go_enter Tryd.func10, Tryd.ntmps10
  go_wp2_with fail
  refine (KS.out _ (Below.refl _ _)).mono ?_
  rintro e w1 ⟨rfl, hb1⟩
  have HB := Lib.hid hb1
  clear hb1
  go_wp2_with fail
  refine (KN.out _).mono ?_
  rintro e w2 ⟨rfl, hb1⟩
  replace HB := Lib.hid (later HB.out hb1)
  clear hb1
  go_wp2_with fail
  refine (KW.out _).mono ?_
  rintro e w3 ⟨rfl, hb1⟩
  replace HB := Lib.hid (later HB.out hb1)
  clear hb1
  go_wp2_with fail
  go_loopw [7, 8, 9, 10, 11] (fun v7 v8 v9 v10 v11 wr => ∃ (k : Nat) (acc : List UInt8) (t : Int), k ≤ n ∧ v11 = .int .i64 k ∧ v7 = .string (bs acc) ∧ v10 = .int .i64 t ∧ okI t ∧ acc.length ≤ 8 + k * 16 ∧ acc ++ wS (l.drop k) = S ∧ wr.ownsRow w.heap.size 2 1 v8 k ((times (l.take k)).flatMap StW.encI) ∧ wr.ownsRow w.heap.size 35 1 v9 k ((vals (l.take k)).flatMap VaW.encU) ∧ Below w.heap.size w wr) (fun _ _ _ _ v11 _ => n - (intOf v11).toNat)
  case atStart => exact ⟨0, wide n, 0, Nat.zero_le _, rfl, rfl, rfl, by unfold okI; omega, by rw [wide_len]; omega, HK.out, World.ownsRow_nil _ _ _ _, World.ownsRow_nil _ _ _ _, HB.out⟩
  case round =>
    clear HB KS KN
    obtain ⟨k, acc, t, hk, rfl, rfl, rfl, ht0, hal, hacc, hown8, hown9, ho⟩ := hrel
    have hln := HL.out.len
    by_cases hlt : k < n
    · have hkl : k < l.length := by omega
      obtain ⟨q, o, rfl, hcs⟩ := S_cells HL.out.lies hkl
      obtain ⟨hc0, hc1⟩ := hcs _ ho
      have ht := times_snoc l k hkl
      have hv := vals_snoc l k hkl
      have hok := HL.out.ok _ (List.getElem_mem hkl)
      rw [wS_at l k hkl] at hacc
      generalize l[k] = x at *
      obtain ⟨x1, x2⟩ := x
      obtain ⟨hx1, hx2, hx3, hx4⟩ := hok
      simp only [] at hc0 hc1 ht hv hacc hx1 hx2 hx3 hx4
      obtain ⟨v2, rfl⟩ : ∃ v : Nat, x2 = (v : Int) := ⟨x2.toNat, by omega⟩
      rw [Int.toNat_natCast] at hv
      rw [Int.toNat_natCast] at hacc
      have hx1ok : okI x1 := ⟨hx1, hx2⟩
      have hbz := ho.size
      have hqlt : ∀ W, Below w.heap.size w W → W.cell? ⟨q, o + k * 2, none⟩ = some (.int .i64 x1) ∧ W.cell? ⟨q, o + k * 2 + 1, none⟩ = some (.int .u64 (v2 : Int)) := fun W h => hcs W h
      have HCS := Lib.hid hqlt
      have HTV := Lib.hid (And.intro ht hv)
      have hne48 := own_type hown8 hown9 (by decide)
      have HN48 := Lib.hid hne48
      have HO := Lib.hid (And.intro ho hown9)
      have i0 : (0 : Int) ≤ (k : Int) := by omega
      have i1 : (k : Int) < (n : Int) := by omega
      obtain ⟨m1, hm1⟩ : ∃ m, wide (StM.u64 x1) = m := ⟨_, rfl⟩
      obtain ⟨m2, hm2⟩ : ∃ m, wide v2 = m := ⟨_, rfl⟩
      have hz1 : m1.length ≤ 10 := by rw [← hm1, wide_len]; omega
      have hz2 : m2.length = 8 := by rw [← hm2]; exact wide_len _
      have C1 : Hid (∀ W : World, Calls Tryd.prog 21 #[.int .u64 ((StM.u64 x1 : Nat) : Int)] W fun e w' => e = .returned (.string (bs m1)) ∧ Below W.heap.size W w') := Lib.hid (fun W => by rw [← hm1]; exact rwide_any (StM.u64 x1) W (u64_lt _))
      have C2 : Hid (∀ W : World, Calls Tryd.prog 21 #[.int .u64 (v2 : Int)] W fun e w' => e = .returned (.string (bs m2)) ∧ Below W.heap.size W w') := Lib.hid (fun W => by rw [← hm2]; exact rwide_any v2 W (by omega))
      have hwr := u64_wr x1
      have hl8 : m1.length = 8 := by rw [← hm1]; exact wide_len _
      obtain ⟨V1, hV1⟩ : ∃ V, StM.u64 x1 = V := ⟨_, rfl⟩
      rw [hV1] at hwr C1
      rw [hm1, hm2] at hacc
      clear hV1
      have hzb0 : (bs acc).size ≤ 10000 := by rw [bs_size]; omega
      have hzb1 : (bs m1).size ≤ 10 := by rw [bs_size]; exact hz1
      have hzb2 : (bs m2).size ≤ 8 := by rw [bs_size, hz2]; exact Nat.le_refl _
      have HE : Hid (bs acc ++ bs m1 ++ bs m2 = bs (acc ++ (m1 ++ m2))) := Lib.hid (by rw [bs_append, bs_append, List.append_assoc])
      obtain ⟨M0, hM0⟩ : ∃ M, bs acc = M := ⟨_, rfl⟩
      obtain ⟨M1, hM1⟩ : ∃ M, bs m1 = M := ⟨_, rfl⟩
      obtain ⟨M2, hM2⟩ : ∃ M, bs m2 = M := ⟨_, rfl⟩
      rw [hM0] at hzb0 HE ⊢
      rw [hM1] at hzb1 C1 HE
      rw [hM2] at hzb2 C2 HE
      have hadd1 : ∀ W : World, (Op.stringOp .add M0 M1).run Tryd.prog W = .ok (.string (M0 ++ M1)) W := fun W => run_string_add_sum W M0 M1 (by omega)
      have hadd2 : ∀ W : World, (Op.stringOp .add (M0 ++ M1) M2).run Tryd.prog W = .ok (.string (M0 ++ M1 ++ M2)) W := fun W => run_string_add_sum W (M0 ++ M1) M2 (by rw [ByteArray.size_append]; omega)
      have HF := Lib.hid (And.intro hacc (And.intro hal (And.intro hz1 (And.intro hz2 hl8))))
      clear hm1 hm2 hM0 hM1 hM2 hz1 hz2 hl8
      clear ho hln hcs hqlt ht hv hx1 hx2 hx3 hx4 hown9 hne48 hacc hal
      go_wp2_with (first
        | (at_builtin; (refine wpList_append_keepC rfl _ _ 52 rfl w.heap.size 2 (.int .i64 0) 1 8 Tryd.underlying52 StW.elemI64 rfl (by decide) wr hown8 rfl _ rfl rfl rfl (one1 rfl) (by omega) (by omega) hbz ?_)
           intro v8' w4' hown8' hb8' hz8' hkp8
           have hown9B := own_same (w' := w4') HO.out.2 (fun j hj => hkp8 j (own_lt' HO.out.2 j hj).2 (fun e => HN48.out j e hj))
           obtain ⟨d0, d1⟩ := HCS.out w4' (HO.out.1.trans hb8')
           have HB8 := Lib.hid (HO.out.1.trans hb8')
           have HO8 := Lib.hid hown8'
           have HD := Lib.hid (own_type hown9B hown8' (by decide))
           clear hown8 hown8' hb8' hz8' hkp8 hc0 hc1)
        | (at_builtin; (refine wpList_append_keepC rfl _ _ 53 rfl w.heap.size 35 (.int .u64 0) 1 8 Tryd.underlying53 VaW.elemU64 rfl (by decide) w4' hown9B rfl _ rfl rfl rfl (one1 rfl) (by omega) (by omega) HB8.out.size ?_)
           intro v9' w5' hown9' hb9' hz9' hkp9
           have hown8C := own_same (w' := w5') HO8.out (fun j hj => hkp9 j (own_lt' HO8.out j hj).2 (fun e => HD.out j e hj))
           obtain ⟨f0, f1⟩ := HCS.out w5' (HB8.out.trans hb9')
           have HB9 := Lib.hid (HB8.out.trans hb9')
           have HO9 := Lib.hid (And.intro hown8C hown9')
           clear hown9B hown9' hb9' hz9' hkp9 hown8C HO8 d0 d1))
      have K := Lib.hid (fun (W W' : World) (h : Below w5'.heap.size w5' W) (hb' : Below W.heap.size W W') =>
        (⟨later h hb', HCS.out _ (HB9.out.trans ((later h hb').mono HB9.out.size))⟩ : Below w5'.heap.size w5' W' ∧ W'.cell? ⟨q, o + k * 2, none⟩ = some (.int .i64 x1) ∧ W'.cell? ⟨q, o + k * 2 + 1, none⟩ = some (.int .u64 (v2 : Int))))
      have K0 := K.out _ _ (Below.refl _ _) (below_self_drew _)
      clear f0 f1
      go_region_held3 (fun W : World => Below w5'.heap.size w5' W ∧ W.cell? ⟨q, o + k * 2, none⟩ = some (.int .i64 x1) ∧ W.cell? ⟨q, o + k * 2 + 1, none⟩ = some (.int .u64 (v2 : Int)))
        (first | exact K0 | exact K.out _ _ (And.left (by assumption)) (by assumption))
        (first
          | (go_at_call 21; (with_reducible refine (C1.out _).mono ?_); rintro e w5 ⟨rfl, hb5⟩)
          | (go_at_call 21; (with_reducible refine (C2.out _).mono ?_); rintro e w6 ⟨rfl, hb6⟩))
      rename_i hh
      have HH := Lib.hid hh.1
      have g0 := hh.2.1
      clear hh hb5 hb6 K0 K C1 C2 hadd1 hadd2 hzb1 hzb2 hzb0 hwr 
      go_wp2_with fail
      go_roundw
      case rel =>
        have hsz : ∀ j, j < w5'.heap.size → _ := fun j hj => HH.out.block j hj
        refine ⟨k + 1, acc ++ (m1 ++ m2), x1, by omega, by go_num, by rw [← HE.out], rfl, hx1ok, by have := HF.out; rw [List.length_append, List.length_append]; omega, by rw [← HF.out.1]; simp, ?_, ?_, HB9.out.trans (HH.out.mono HB9.out.size)⟩
        · rw [HTV.out.1, List.flatMap_append]; exact own_same HO9.out.1 (fun j hj => HH.out.block j (own_lt' HO9.out.1 j hj).2)
        · rw [HTV.out.2, List.flatMap_append]; exact own_same HO9.out.2 (fun j hj => HH.out.block j (own_lt' HO9.out.2 j hj).2)
      case measure => simp [intOf]; omega
    · have hkn : k = n := by omega
      subst hkn
      rw [List.drop_of_length_le (by omega)] at hacc
      have hS : S = acc := by rw [← hacc]; simp [wS]
      subst hS
      have HH := Lib.hid ho
      obtain ⟨M0, hM0⟩ : ∃ M, bs S = M := ⟨_, rfl⟩
      rw [hM0] at KT hadF ⊢
      clear ho hacc hown8 hown9 hM0
      go_wp2_with fail
      refine (KT.out _).mono ?_
      rintro e w5 ⟨rfl, hb1⟩
      replace HH := Lib.hid (later HH.out hb1)
      clear hb1
      go_wp2_with fail
      exact bodyPost_ret (v := .tuple #[.string ZF, .int .i64 0]) (by simp [results, Tryd.results10, go_sem]) rfl ⟨rfl, HH.out⟩
set_option maxRecDepth 20000 in
set_option maxHeartbeats 8000000 in
theorem rput_2 (A : Option Addr) (n c : Nat) (l : List Sm) (w : World) (hl : Comes w 2 encS okS A n c l) (hs : LabW.sortedL l = true) (hn : n ≤ 200) :
    Calls Tryd.prog 10 #[.slice A n c, .int .i64 2] w fun e w' => e = .returned (.tuple #[.string (bs (body 2 l ++ CrcM.ctail (body 2 l))), .int .i64 0]) ∧ Below w.heap.size w w' := by
  have HL := Lib.hid hl
  have hcap : c ≤ 9223372036854775807 := hl.cap
  have hle := hl.le
  have hln0 := hl.len
  have hok : okMs l := fun x hx => ok_of (hl.ok x hx)
  have HOK := Lib.hid hok
  have hbl : (body 2 l).length ≤ 100000 := sS_le (by omega)
  have KS : Hid (∀ W, Below w.heap.size w W → Calls Tryd.prog 19 #[.slice A n c] W fun e w' => e = .returned (.bool true) ∧ Below W.heap.size W w') := Lib.hid (fun W h => by have := rsorted_any A n c l W (HL.out.later h); rw [hs] at this; exact this)
  have KN : Hid (∀ W, Calls Tryd.prog 20 #[.int .u64 (n : Int)] W fun e w' => e = .returned (.string (bs (small n))) ∧ Below W.heap.size W w') := Lib.hid (fun W => rsmall_any n W (by omega))
  obtain ⟨S, hS⟩ : ∃ S, body 2 l = S := ⟨_, rfl⟩
  rw [hS] at hbl ⊢
  have HK : Hid (small n ++ sS 0 l = S) := Lib.hid (by rw [← hS, ← hln0]; rfl)
  have KT : Hid (∀ W, Calls Tryd.prog 26 #[.string (bs S)] W fun e w' => e = .returned (.string (bs (CrcM.ctail S))) ∧ Below W.heap.size W w') := Lib.hid (fun W => by
    have hz := bs_size S
    have := CrcW.rtail_any (bs S) W (by unfold maxLen; omega)
    rw [show (bs S).data.toList = S by simp [bs]] at this
    exact this)
  have hzT : (CrcM.ctail S).length = 4 := CrcM.ctail_length S
  have hzF := bs_size S
  have hzG := bs_size (CrcM.ctail S)
  have hadF : ∀ W : World, (Op.stringOp .add (bs S) (bs (CrcM.ctail S))).run Tryd.prog W = .ok (.string (bs (S ++ CrcM.ctail S))) W := fun W => by rw [← bs_append]; exact run_string_add_sum W _ _ (by omega)
  have HBL := Lib.hid hbl
  obtain ⟨ZT, hZT⟩ : ∃ Z, bs (CrcM.ctail S) = Z := ⟨_, rfl⟩
  obtain ⟨ZF, hZF⟩ : ∃ Z, bs (S ++ CrcM.ctail S) = Z := ⟨_, rfl⟩
  rw [hZT] at KT hadF
  rw [hZF] at hadF
  rw [hZF]
  clear hl hs hS hok hzT hzF hzG hbl hZT hZF
  go_enter Tryd.func10, Tryd.ntmps10
  go_wp2_with fail
  refine (KS.out _ (Below.refl _ _)).mono ?_
  rintro e w1 ⟨rfl, hb1⟩
  have HB := Lib.hid hb1
  clear hb1
  go_wp2_with fail
  refine (KN.out _).mono ?_
  rintro e w2 ⟨rfl, hb1⟩
  replace HB := Lib.hid (later HB.out hb1)
  clear hb1
  go_wp2_with fail
  go_loopw [7, 8, 9, 10, 11] (fun v7 v8 v9 v10 v11 wr => ∃ (k : Nat) (acc : List UInt8) (t : Int), k ≤ n ∧ v11 = .int .i64 k ∧ v7 = .string (bs acc) ∧ v10 = .int .i64 t ∧ okI t ∧ acc.length ≤ 10 + k * 18 ∧ acc ++ sS t (l.drop k) = S ∧ wr.ownsRow w.heap.size 2 1 v8 k ((times (l.take k)).flatMap StW.encI) ∧ wr.ownsRow w.heap.size 35 1 v9 k ((vals (l.take k)).flatMap VaW.encU) ∧ Below w.heap.size w wr) (fun _ _ _ _ v11 _ => n - (intOf v11).toNat)
  case atStart => exact ⟨0, small n, 0, Nat.zero_le _, rfl, rfl, rfl, by unfold okI; omega, by have : (small n).length ≤ 10 := sm_len 9 n; omega, HK.out, World.ownsRow_nil _ _ _ _, World.ownsRow_nil _ _ _ _, HB.out⟩
  case round =>
    clear HB KS KN
    obtain ⟨k, acc, t, hk, rfl, rfl, rfl, ht0, hal, hacc, hown8, hown9, ho⟩ := hrel
    have hln := HL.out.len
    by_cases hlt : k < n
    · have hkl : k < l.length := by omega
      obtain ⟨q, o, rfl, hcs⟩ := S_cells HL.out.lies hkl
      obtain ⟨hc0, hc1⟩ := hcs _ ho
      have ht := times_snoc l k hkl
      have hv := vals_snoc l k hkl
      have hok := HL.out.ok _ (List.getElem_mem hkl)
      rw [sS_at l k t hkl] at hacc
      generalize l[k] = x at *
      obtain ⟨x1, x2⟩ := x
      obtain ⟨hx1, hx2, hx3, hx4⟩ := hok
      simp only [] at hc0 hc1 ht hv hacc hx1 hx2 hx3 hx4
      obtain ⟨v2, rfl⟩ : ∃ v : Nat, x2 = (v : Int) := ⟨x2.toNat, by omega⟩
      rw [Int.toNat_natCast] at hv
      rw [Int.toNat_natCast] at hacc
      have hx1ok : okI x1 := ⟨hx1, hx2⟩
      have hbz := ho.size
      have hqlt : ∀ W, Below w.heap.size w W → W.cell? ⟨q, o + k * 2, none⟩ = some (.int .i64 x1) ∧ W.cell? ⟨q, o + k * 2 + 1, none⟩ = some (.int .u64 (v2 : Int)) := fun W h => hcs W h
      have HCS := Lib.hid hqlt
      have HTV := Lib.hid (And.intro ht hv)
      have hne48 := own_type hown8 hown9 (by decide)
      have HN48 := Lib.hid hne48
      have HO := Lib.hid (And.intro ho hown9)
      have i0 : (0 : Int) ≤ (k : Int) := by omega
      have i1 : (k : Int) < (n : Int) := by omega
      obtain ⟨d, hd⟩ : ∃ d, wrap64 (x1 - t) = d := ⟨_, rfl⟩
      have hdo : okI d := by rw [← hd]; exact okI_wrap _
      have hzl := zig_lt hdo
      rw [hd] at hacc
      obtain ⟨m1, hm1⟩ : ∃ m, small (zig d) = m := ⟨_, rfl⟩
      obtain ⟨m2, hm2⟩ : ∃ m, wide v2 = m := ⟨_, rfl⟩
      have hz1 : m1.length ≤ 10 := by rw [← hm1]; exact sm_len 9 _
      have hz2 : m2.length = 8 := by rw [← hm2]; exact wide_len _
      have C0 : Hid (∀ W : World, Calls Tryd.prog 22 #[.int .i64 d] W fun e w' => e = .returned (.int .u64 ((zig d : Nat) : Int)) ∧ W = w') := Lib.hid (fun W => rzig_any d W hdo)
      have C1 : Hid (∀ W : World, Calls Tryd.prog 20 #[.int .u64 ((zig d : Nat) : Int)] W fun e w' => e = .returned (.string (bs m1)) ∧ Below W.heap.size W w') := Lib.hid (fun W => by rw [← hm1]; exact rsmall_any (zig d) W hzl)
      have C2 : Hid (∀ W : World, Calls Tryd.prog 21 #[.int .u64 (v2 : Int)] W fun e w' => e = .returned (.string (bs m2)) ∧ Below W.heap.size W w') := Lib.hid (fun W => by rw [← hm2]; exact rwide_any v2 W (by omega))
      have hwr : IntKind.i64.wrap (x1 - t) = d := by rw [i64_wr]; exact hd
      obtain ⟨V1, hV1⟩ : ∃ V, zig d = V := ⟨_, rfl⟩
      rw [hV1] at C0 C1
      rw [hm1, hm2] at hacc
      clear hV1 hd hdo hzl
      have hzb0 : (bs acc).size ≤ 10000 := by rw [bs_size]; omega
      have hzb1 : (bs m1).size ≤ 10 := by rw [bs_size]; exact hz1
      have hzb2 : (bs m2).size ≤ 8 := by rw [bs_size, hz2]; exact Nat.le_refl _
      have HE : Hid (bs acc ++ bs m1 ++ bs m2 = bs (acc ++ (m1 ++ m2))) := Lib.hid (by rw [bs_append, bs_append, List.append_assoc])
      obtain ⟨M0, hM0⟩ : ∃ M, bs acc = M := ⟨_, rfl⟩
      obtain ⟨M1, hM1⟩ : ∃ M, bs m1 = M := ⟨_, rfl⟩
      obtain ⟨M2, hM2⟩ : ∃ M, bs m2 = M := ⟨_, rfl⟩
      rw [hM0] at hzb0 HE ⊢
      rw [hM1] at hzb1 C1 HE
      rw [hM2] at hzb2 C2 HE
      have hadd1 : ∀ W : World, (Op.stringOp .add M0 M1).run Tryd.prog W = .ok (.string (M0 ++ M1)) W := fun W => run_string_add_sum W M0 M1 (by omega)
      have hadd2 : ∀ W : World, (Op.stringOp .add (M0 ++ M1) M2).run Tryd.prog W = .ok (.string (M0 ++ M1 ++ M2)) W := fun W => run_string_add_sum W (M0 ++ M1) M2 (by rw [ByteArray.size_append]; omega)
      have HF := Lib.hid (And.intro hacc (And.intro hal (And.intro hz1 (And.intro hz2 trivial))))
      clear hm1 hm2 hM0 hM1 hM2 hz1 hz2 
      clear ho hln hcs hqlt ht hv hx1 hx2 hx3 hx4 hown9 hne48 hacc hal
      go_wp2_with (first
        | (at_builtin; (refine wpList_append_keepC rfl _ _ 52 rfl w.heap.size 2 (.int .i64 0) 1 8 Tryd.underlying52 StW.elemI64 rfl (by decide) wr hown8 rfl _ rfl rfl rfl (one1 rfl) (by omega) (by omega) hbz ?_)
           intro v8' w4' hown8' hb8' hz8' hkp8
           have hown9B := own_same (w' := w4') HO.out.2 (fun j hj => hkp8 j (own_lt' HO.out.2 j hj).2 (fun e => HN48.out j e hj))
           obtain ⟨d0, d1⟩ := HCS.out w4' (HO.out.1.trans hb8')
           have HB8 := Lib.hid (HO.out.1.trans hb8')
           have HO8 := Lib.hid hown8'
           have HD := Lib.hid (own_type hown9B hown8' (by decide))
           clear hown8 hown8' hb8' hz8' hkp8 hc0 hc1)
        | (at_builtin; (refine wpList_append_keepC rfl _ _ 53 rfl w.heap.size 35 (.int .u64 0) 1 8 Tryd.underlying53 VaW.elemU64 rfl (by decide) w4' hown9B rfl _ rfl rfl rfl (one1 rfl) (by omega) (by omega) HB8.out.size ?_)
           intro v9' w5' hown9' hb9' hz9' hkp9
           have hown8C := own_same (w' := w5') HO8.out (fun j hj => hkp9 j (own_lt' HO8.out j hj).2 (fun e => HD.out j e hj))
           obtain ⟨f0, f1⟩ := HCS.out w5' (HB8.out.trans hb9')
           have HB9 := Lib.hid (HB8.out.trans hb9')
           have HO9 := Lib.hid (And.intro hown8C hown9')
           clear hown9B hown9' hb9' hz9' hkp9 hown8C HO8 d0 d1))
      have K := Lib.hid (fun (W W' : World) (h : Below w5'.heap.size w5' W) (hb' : Below W.heap.size W W') =>
        (⟨later h hb', HCS.out _ (HB9.out.trans ((later h hb').mono HB9.out.size))⟩ : Below w5'.heap.size w5' W' ∧ W'.cell? ⟨q, o + k * 2, none⟩ = some (.int .i64 x1) ∧ W'.cell? ⟨q, o + k * 2 + 1, none⟩ = some (.int .u64 (v2 : Int))))
      have K0 := K.out _ _ (Below.refl _ _) (below_self_drew _)
      clear f0 f1
      go_region_held3 (fun W : World => Below w5'.heap.size w5' W ∧ W.cell? ⟨q, o + k * 2, none⟩ = some (.int .i64 x1) ∧ W.cell? ⟨q, o + k * 2 + 1, none⟩ = some (.int .u64 (v2 : Int)))
        (first | exact K0 | exact K.out _ _ (And.left (by assumption)) (by assumption))
        (first
          | (go_at_call 22; (with_reducible refine (C0.out _).mono ?_); rintro e w4 ⟨rfl, rfl⟩)
          | (go_at_call 20; (with_reducible refine (C1.out _).mono ?_); rintro e w5 ⟨rfl, hb5⟩)
          | (go_at_call 21; (with_reducible refine (C2.out _).mono ?_); rintro e w6 ⟨rfl, hb6⟩))
      rename_i hh
      have HH := Lib.hid hh.1
      have g0 := hh.2.1
      clear hh hb5 hb6 K0 K C1 C2 hadd1 hadd2 hzb1 hzb2 hzb0 hwr C0
      go_wp2_with fail
      go_roundw
      case rel =>
        have hsz : ∀ j, j < w5'.heap.size → _ := fun j hj => HH.out.block j hj
        refine ⟨k + 1, acc ++ (m1 ++ m2), x1, by omega, by go_num, by rw [← HE.out], rfl, hx1ok, by have := HF.out; rw [List.length_append, List.length_append]; omega, by rw [← HF.out.1]; simp, ?_, ?_, HB9.out.trans (HH.out.mono HB9.out.size)⟩
        · rw [HTV.out.1, List.flatMap_append]; exact own_same HO9.out.1 (fun j hj => HH.out.block j (own_lt' HO9.out.1 j hj).2)
        · rw [HTV.out.2, List.flatMap_append]; exact own_same HO9.out.2 (fun j hj => HH.out.block j (own_lt' HO9.out.2 j hj).2)
      case measure => simp [intOf]; omega
    · have hkn : k = n := by omega
      subst hkn
      rw [List.drop_of_length_le (by omega)] at hacc
      have hS : S = acc := by rw [← hacc]; simp [sS]
      subst hS
      have HH := Lib.hid ho
      obtain ⟨M0, hM0⟩ : ∃ M, bs S = M := ⟨_, rfl⟩
      rw [hM0] at KT hadF ⊢
      clear ho hacc hown8 hown9 hM0
      go_wp2_with fail
      refine (KT.out _).mono ?_
      rintro e w5 ⟨rfl, hb1⟩
      replace HH := Lib.hid (later HH.out hb1)
      clear hb1
      go_wp2_with fail
      exact bodyPost_ret (v := .tuple #[.string ZF, .int .i64 0]) (by simp [results, Tryd.results10, go_sem]) rfl ⟨rfl, HH.out⟩
set_option maxRecDepth 20000 in
set_option maxHeartbeats 8000000 in
theorem rput_3 (A : Option Addr) (n c : Nat) (l : List Sm) (w : World) (hl : Comes w 2 encS okS A n c l) (hs : LabW.sortedL l = true) (hn : n ≤ 200) :
    Calls Tryd.prog 10 #[.slice A n c, .int .i64 3] w fun e w' => e = .returned (.tuple #[.string (bs (body 3 l ++ CrcM.ctail (body 3 l))), .int .i64 0]) ∧ Below w.heap.size w w' := by
  have HL := Lib.hid hl
  have hcap : c ≤ 9223372036854775807 := hl.cap
  have hle := hl.le
  have hln0 := hl.len
  have hok : okMs l := fun x hx => ok_of (hl.ok x hx)
  have HOK := Lib.hid hok
  have hbl : (body 3 l).length ≤ 100000 := bB_le (by omega)
  have KS : Hid (∀ W, Below w.heap.size w W → Calls Tryd.prog 19 #[.slice A n c] W fun e w' => e = .returned (.bool true) ∧ Below W.heap.size W w') := Lib.hid (fun W h => by have := rsorted_any A n c l W (HL.out.later h); rw [hs] at this; exact this)
  have KN : Hid (∀ W, Calls Tryd.prog 20 #[.int .u64 (n : Int)] W fun e w' => e = .returned (.string (bs (small n))) ∧ Below W.heap.size W w') := Lib.hid (fun W => rsmall_any n W (by omega))
  obtain ⟨S, hS⟩ : ∃ S, body 3 l = S := ⟨_, rfl⟩
  rw [hS] at hbl ⊢
  have HK : Hid (small n ++ (text (tB l) ++ text (vB l)) = S) := Lib.hid (by rw [← hS, ← hln0]; rfl)
  have KT : Hid (∀ W, Calls Tryd.prog 26 #[.string (bs S)] W fun e w' => e = .returned (.string (bs (CrcM.ctail S))) ∧ Below W.heap.size W w') := Lib.hid (fun W => by
    have hz := bs_size S
    have := CrcW.rtail_any (bs S) W (by unfold maxLen; omega)
    rw [show (bs S).data.toList = S by simp [bs]] at this
    exact this)
  have hzT : (CrcM.ctail S).length = 4 := CrcM.ctail_length S
  have hzF := bs_size S
  have hzG := bs_size (CrcM.ctail S)
  have hadF : ∀ W : World, (Op.stringOp .add (bs S) (bs (CrcM.ctail S))).run Tryd.prog W = .ok (.string (bs (S ++ CrcM.ctail S))) W := fun W => by rw [← bs_append]; exact run_string_add_sum W _ _ (by omega)
  have HBL := Lib.hid hbl
  obtain ⟨ZT, hZT⟩ : ∃ Z, bs (CrcM.ctail S) = Z := ⟨_, rfl⟩
  obtain ⟨ZF, hZF⟩ : ∃ Z, bs (S ++ CrcM.ctail S) = Z := ⟨_, rfl⟩
  rw [hZT] at KT hadF
  rw [hZF] at hadF
  rw [hZF]
  clear hl hs hS hok hzT hzF hzG hbl hZT hZF
  go_enter Tryd.func10, Tryd.ntmps10
  go_wp2_with fail
  refine (KS.out _ (Below.refl _ _)).mono ?_
  rintro e w1 ⟨rfl, hb1⟩
  have HB := Lib.hid hb1
  clear hb1
  go_wp2_with fail
  refine (KN.out _).mono ?_
  rintro e w2 ⟨rfl, hb1⟩
  replace HB := Lib.hid (later HB.out hb1)
  clear hb1
  go_wp2_with fail
  go_loopw [7, 8, 9, 10, 11] (fun v7 v8 v9 v10 v11 wr => ∃ (k : Nat) (acc : List UInt8) (t : Int), k ≤ n ∧ v11 = .int .i64 k ∧ v7 = .string (bs acc) ∧ v10 = .int .i64 t ∧ okI t ∧ acc.length ≤ 10 ∧ acc ++ (text (tB l) ++ text (vB l)) = S ∧ wr.ownsRow w.heap.size 2 1 v8 k ((times (l.take k)).flatMap StW.encI) ∧ wr.ownsRow w.heap.size 35 1 v9 k ((vals (l.take k)).flatMap VaW.encU) ∧ Below w.heap.size w wr) (fun _ _ _ _ v11 _ => n - (intOf v11).toNat)
  case atStart => exact ⟨0, small n, 0, Nat.zero_le _, rfl, rfl, rfl, by unfold okI; omega, by have : (small n).length ≤ 10 := sm_len 9 n; omega, HK.out, World.ownsRow_nil _ _ _ _, World.ownsRow_nil _ _ _ _, HB.out⟩
  case round =>
    clear HB KS KN
    obtain ⟨k, acc, t, hk, rfl, rfl, rfl, ht0, hal, hacc, hown8, hown9, ho⟩ := hrel
    have hln := HL.out.len
    by_cases hlt : k < n
    · have hkl : k < l.length := by omega
      obtain ⟨q, o, rfl, hcs⟩ := S_cells HL.out.lies hkl
      obtain ⟨hc0, hc1⟩ := hcs _ ho
      have ht := times_snoc l k hkl
      have hv := vals_snoc l k hkl
      have hok := HL.out.ok _ (List.getElem_mem hkl)
      generalize l[k] = x at *
      obtain ⟨x1, x2⟩ := x
      obtain ⟨hx1, hx2, hx3, hx4⟩ := hok
      simp only [] at hc0 hc1 ht hv hacc hx1 hx2 hx3 hx4
      obtain ⟨v2, rfl⟩ : ∃ v : Nat, x2 = (v : Int) := ⟨x2.toNat, by omega⟩
      rw [Int.toNat_natCast] at hv
      have hx1ok : okI x1 := ⟨hx1, hx2⟩
      have hbz := ho.size
      have hqlt : ∀ W, Below w.heap.size w W → W.cell? ⟨q, o + k * 2, none⟩ = some (.int .i64 x1) ∧ W.cell? ⟨q, o + k * 2 + 1, none⟩ = some (.int .u64 (v2 : Int)) := fun W h => hcs W h
      have HCS := Lib.hid hqlt
      have HTV := Lib.hid (And.intro ht hv)
      have hne48 := own_type hown8 hown9 (by decide)
      have HN48 := Lib.hid hne48
      have HO := Lib.hid (And.intro ho hown9)
      have i0 : (0 : Int) ≤ (k : Int) := by omega
      have i1 : (k : Int) < (n : Int) := by omega
      have HF := Lib.hid (And.intro hacc hal)
      clear ho hln hcs hqlt ht hv hx1 hx2 hx3 hx4 hown9 hne48 hacc hal
      go_wp2_with (first
        | (at_builtin; (refine wpList_append_keepC rfl _ _ 52 rfl w.heap.size 2 (.int .i64 0) 1 8 Tryd.underlying52 StW.elemI64 rfl (by decide) wr hown8 rfl _ rfl rfl rfl (one1 rfl) (by omega) (by omega) hbz ?_)
           intro v8' w4' hown8' hb8' hz8' hkp8
           have hown9B := own_same (w' := w4') HO.out.2 (fun j hj => hkp8 j (own_lt' HO.out.2 j hj).2 (fun e => HN48.out j e hj))
           obtain ⟨d0, d1⟩ := HCS.out w4' (HO.out.1.trans hb8')
           have HB8 := Lib.hid (HO.out.1.trans hb8')
           have HO8 := Lib.hid hown8'
           have HD := Lib.hid (own_type hown9B hown8' (by decide))
           clear hown8 hown8' hb8' hz8' hkp8 hc0 hc1)
        | (at_builtin; (refine wpList_append_keepC rfl _ _ 53 rfl w.heap.size 35 (.int .u64 0) 1 8 Tryd.underlying53 VaW.elemU64 rfl (by decide) w4' hown9B rfl _ rfl rfl rfl (one1 rfl) (by omega) (by omega) HB8.out.size ?_)
           intro v9' w5' hown9' hb9' hz9' hkp9
           have hown8C := own_same (w' := w5') HO8.out (fun j hj => hkp9 j (own_lt' HO8.out j hj).2 (fun e => HD.out j e hj))
           obtain ⟨f0, f1⟩ := HCS.out w5' (HB8.out.trans hb9')
           have HB9 := Lib.hid (HB8.out.trans hb9')
           have HO9 := Lib.hid (And.intro hown8C hown9')
           clear hown9B hown9' hb9' hz9' hkp9 hown8C HO8 d0 d1))
      go_roundw
      case rel =>
        refine ⟨k + 1, acc, x1, by omega, by go_num, rfl, rfl, hx1ok, HF.out.2, HF.out.1, ?_, ?_, HB9.out⟩
        · rw [HTV.out.1, List.flatMap_append]; exact HO9.out.1
        · rw [HTV.out.2, List.flatMap_append]; exact HO9.out.2
      case measure => simp [intOf]; omega
    · have hkn : k = n := by omega
      subst hkn
      rw [List.take_of_length_le (by omega)] at hown8 hown9
      obtain ⟨A4, c4, rfl, -, hc4⟩ := Comes.of_own hown8 (fun _ => rfl) (by decide) (times_ok HOK.out)
      obtain ⟨A5, c5, rfl, -, hc5⟩ := Comes.of_own hown9 (fun _ => rfl) (by decide) (vals_ok HOK.out)
      have hb1 := bitsAll_len StW.s0 (times l)
      have hb2 := VaM.bitsV_len VaM.v0 (vals l)
      rw [times_len] at hb1
      rw [vals_len] at hb2
      have ht1 : (tB l).length ≤ 8501 := by unfold tB; have := pack_le (bitsAll StW.s0 (times l)); omega
      have ht2 : (vB l).length ≤ 9751 := by unfold vB; have := pack_le (VaM.bitsV VaM.v0 (vals l)); omega
      have K2 : Hid (∀ W, Below wr.heap.size wr W → Calls Tryd.prog 24 #[.slice A4 k c4] W fun e w' => e = .returned (.string (bs (tB l))) ∧ Below W.heap.size W w') := Lib.hid (fun W h => StW.rall_any A4 k c4 (times l) W (hc4.later h) (by omega))
      have K3 : Hid (∀ W, Calls Tryd.prog 23 #[.string (bs (tB l))] W fun e w' => e = .returned (.string (bs (text (tB l)))) ∧ Below W.heap.size W w') := Lib.hid (fun W => rtext_any (tB l) W (by omega))
      have K4 : Hid (∀ W, Below wr.heap.size wr W → Calls Tryd.prog 25 #[.slice A5 k c5] W fun e w' => e = .returned (.string (bs (vB l))) ∧ Below W.heap.size W w') := Lib.hid (fun W h => VaW.rall_any A5 k c5 (vals l) W (hc5.later h) (by omega))
      have K5 : Hid (∀ W, Calls Tryd.prog 23 #[.string (bs (vB l))] W fun e w' => e = .returned (.string (bs (text (vB l)))) ∧ Below W.heap.size W w') := Lib.hid (fun W => rtext_any (vB l) W (by omega))
      have hs2 := text_len (tB l)
      have hs3 := text_len (vB l)
      have hs4 : (small (tB l).length).length ≤ 10 := sm_len 9 _
      have hs5 : (small (vB l).length).length ≤ 10 := sm_len 9 _
      have hz1 := bs_size acc
      have hz2 := bs_size (text (tB l))
      have hz3 := bs_size (text (vB l))
      have ha1 : ∀ W : World, (Op.stringOp .add (bs acc) (bs (text (tB l)))).run Tryd.prog W = .ok (.string (bs (acc ++ text (tB l)))) W := fun W => by rw [← bs_append]; exact run_string_add_sum W _ _ (by omega)
      have ha2 : ∀ W : World, (Op.stringOp .add (bs (acc ++ text (tB l))) (bs (text (vB l)))).run Tryd.prog W = .ok (.string (bs S)) W := fun W => by
        rw [← hacc, ← List.append_assoc, ← bs_append (acc ++ text (tB l)), ← bs_append]
        exact run_string_add_sum W _ _ (by rw [ByteArray.size_append]; omega)
      have HT := Lib.hid ho
      obtain ⟨M0, hM0⟩ : ∃ M, bs acc = M := ⟨_, rfl⟩
      obtain ⟨M1, hM1⟩ : ∃ M, bs (tB l) = M := ⟨_, rfl⟩
      obtain ⟨M2, hM2⟩ : ∃ M, bs (text (tB l)) = M := ⟨_, rfl⟩
      obtain ⟨M3, hM3⟩ : ∃ M, bs (vB l) = M := ⟨_, rfl⟩
      obtain ⟨M4, hM4⟩ : ∃ M, bs (text (vB l)) = M := ⟨_, rfl⟩
      obtain ⟨M5, hM5⟩ : ∃ M, bs (acc ++ text (tB l)) = M := ⟨_, rfl⟩
      obtain ⟨M6, hM6⟩ : ∃ M, bs S = M := ⟨_, rfl⟩
      rw [hM0] at ha1 ⊢
      rw [hM1] at K2 K3
      rw [hM2] at K3 ha1
      rw [hM3] at K4 K5
      rw [hM4] at K5 ha2
      rw [hM5] at ha1 ha2
      rw [hM6] at ha2 KT hadF
      have KTT := KT
      have hadFF := hadF
      clear hM0 hM1 hM2 hM3 hM4 hM5 hM6 hz1 hz2 hz3 hs2 hs3 hs4 hs5 ht1 ht2 hb1 hb2 hc4 hc5 hown8 hown9 ho hacc hal KT hadF
      go_wp2_with fail
      refine (K2.out _ (Below.refl _ _)).mono ?_
      rintro e w1 ⟨rfl, hb1⟩
      have HB := Lib.hid hb1
      clear hb1
      go_wp2_with fail
      refine (K3.out _).mono ?_
      rintro e w2 ⟨rfl, hb1⟩
      replace HB := Lib.hid (later HB.out hb1)
      clear hb1
      go_wp2_with fail
      refine (K4.out _ HB.out).mono ?_
      rintro e w3 ⟨rfl, hb1⟩
      replace HB := Lib.hid (later HB.out hb1)
      clear hb1
      go_wp2_with fail
      refine (K5.out _).mono ?_
      rintro e w4 ⟨rfl, hb1⟩
      replace HB := Lib.hid (later HB.out hb1)
      clear hb1
      go_wp2_with fail
      refine (KTT.out _).mono ?_
      rintro e w5 ⟨rfl, hb1⟩
      replace HB := Lib.hid (later HB.out hb1)
      clear hb1
      go_wp2_with fail
      exact bodyPost_ret (v := .tuple #[.string ZF, .int .i64 0]) (by simp [results, Tryd.results10, go_sem]) rfl ⟨rfl, HT.out.trans (HB.out.mono HT.out.size)⟩
theorem rput_none (gen : Int) (A : Option Addr) (n c : Nat) (l : List Sm) (w : World) (hl : Comes w 2 encS okS A n c l) (h : gen < 1 ∨ (¬ gen < 1 ∧ gen > 3)) :
    Calls Tryd.prog 10 #[.slice A n c, .int .i64 gen] w fun e w' => e = .returned (.tuple #[.string ⟨#[]⟩, .int .i64 1]) ∧ Below w.heap.size w w' := by
  rcases h with h | ⟨h, h2⟩
  all_goals (
    go_enter Tryd.func10, Tryd.ntmps10
    go_wp2_with fail
    exact bodyPost_ret (v := .tuple #[.string ⟨#[]⟩, .int .i64 1]) (by simp [results, Tryd.results10, go_sem]) rfl ⟨rfl, Below.refl _ _⟩)
set_option maxRecDepth 20000 in
set_option maxHeartbeats 2000000 in
theorem rput_uns (gen : Int) (A : Option Addr) (n c : Nat) (l : List Sm) (w : World) (hl : Comes w 2 encS okS A n c l) (h1 : ¬ gen < 1) (h3 : ¬ gen > 3) (hs : LabW.sortedL l = false ∨ (LabW.sortedL l = true ∧ 200 < n)) :
    Calls Tryd.prog 10 #[.slice A n c, .int .i64 gen] w fun e w' => e = .returned (.tuple #[.string ⟨#[]⟩, .int .i64 1]) ∧ Below w.heap.size w w' := by
  have hcap : c ≤ 9223372036854775807 := hl.cap
  have hle := hl.le
  have KS := Lib.hid (rsorted_any A n c l w hl)
  clear hl
  rcases hs with hs | ⟨hs, hn⟩
  all_goals (
    rw [hs] at KS
    clear hs
    go_enter Tryd.func10, Tryd.ntmps10
    go_wp2_with fail
    refine KS.out.mono ?_
    rintro e w1 ⟨rfl, hb1⟩
    have HB := Lib.hid hb1
    clear hb1
    go_wp2_with fail
    exact bodyPost_ret (v := .tuple #[.string ⟨#[]⟩, .int .i64 1]) (by simp [results, Tryd.results10, go_sem]) rfl ⟨rfl, HB.out⟩)
/-- alluviumref11.Put: the bytes that samples are. -/
theorem rput_any (gen : Int) (A : Option Addr) (n c : Nat) (l : List Sm) (w : World) (hl : Comes w 2 encS okS A n c l) :
    Calls Tryd.prog 10 #[.slice A n c, .int .i64 gen] w fun e w' => e = .returned (.tuple #[.string (bs (putC gen l).1), .int .i64 (putC gen l).2]) ∧ Below w.heap.size w w' := by
  have hln := hl.len
  by_cases hm : may gen l = true
  · rw [putC_good hm]
    unfold may at hm
    simp only [Bool.and_eq_true, decide_eq_true_eq] at hm
    obtain ⟨⟨⟨h1, h3⟩, hs⟩, hn⟩ := hm
    rw [← sorted_eq] at hs
    rcases (by omega : gen = 1 ∨ gen = 2 ∨ gen = 3) with rfl | rfl | rfl
    · exact rput_1 A n c l w hl hs (by omega)
    · exact rput_2 A n c l w hl hs (by omega)
    · exact rput_3 A n c l w hl hs (by omega)
  · rw [putC_bad (Bool.eq_false_iff.2 hm)]
    by_cases h1 : gen < 1
    · exact rput_none gen A n c l w hl (.inl h1)
    by_cases h3 : gen > 3
    · exact rput_none gen A n c l w hl (.inr ⟨h1, h3⟩)
    refine rput_uns gen A n c l w hl h1 h3 ?_
    cases hs : LabW.sortedL l with
    | false => exact .inl rfl
    | true =>
      refine .inr ⟨rfl, ?_⟩
      refine Decidable.byContradiction (fun hn => hm ?_)
      unfold may
      rw [← sorted_eq, hs, decide_eq_true (by omega : 1 ≤ gen), decide_eq_true (by omega : gen ≤ 3), decide_eq_true (by omega : l.length ≤ 200)]
      rfl
end Go.Proofs.YtdidengokijcjaaDoor.ChW
