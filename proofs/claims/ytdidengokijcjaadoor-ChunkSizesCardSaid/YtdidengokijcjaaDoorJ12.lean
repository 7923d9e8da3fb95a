/-
  TIMES AS BITS: Get, WALKED.
  TIMES AS BITS: All, Read, WALKED.
  EQUALITY OF STRUCTS OF ONE-CELL FIELDS, AS RUN EQUATIONS.
-/
import Derived.Test.YtdidengokijcjaaDoorJ10
import Derived.Test.YtdidengokijcjaaDoorJ11
import Derived.Deep.RegionHeld3
import Derived.Test.YtdidengokijcjaaDoorRows
import Derived.Test.YtdidengokijcjaaDoorJ06
import Derived.Laws.StructEq
/-
  TIMES AS BITS: Get, WALKED.
-/
namespace Go.Proofs.YtdidengokijcjaaDoor.StW
open Go.RowKit Go.Shelf BitsM BitsW StM
/-- What is told of what get reads. -/
def Told (S : List Bool) (p : Nat) (s : St) (v : Int) (ok : Bool) (q : Nat) : Prop :=
  match getS (S.drop p) s with
  | none => ok = false
  | some (t, k) => ok = true ∧ v = t ∧ q = p + k
theorem told_first {S : List Bool} {p : Nat} {s : St} (h0 : s.1 = 0) (hl : p + 64 ≤ S.length) : Told S p s (wrap64 (numB ((S.drop p).take 64) : Int)) true (p + 64) := by
  unfold Told getS
  rw [if_pos h0, if_neg (by rw [List.length_drop]; omega)]
  exact ⟨rfl, rfl, rfl⟩
theorem told_first_no {S : List Bool} {p : Nat} {s : St} {v : Int} {q : Nat} (h0 : s.1 = 0) (hl : S.length < p + 64) : Told S p s v false q := by
  unfold Told getS
  rw [if_pos h0, if_pos (by rw [List.length_drop]; omega)]
theorem told_short {S : List Bool} {p i : Nat} {s : St} {v : Int} {q : Nat} (h0 : ¬ s.1 = 0) (ho : ones (S.drop p) = i) (hl : S.length < p + (headLen i + sizeC i)) : Told S p s v false q := by
  unfold Told getS candC
  rw [if_neg h0, if_pos (by rw [List.length_drop, ho]; have : 0 < headLen i := by (unfold headLen; split <;> omega)
                            omega)]
  rfl
theorem told_val {S : List Bool} {p i : Nat} {s : St} {c : Int} (h0 : ¬ s.1 = 0) (ho : ones (S.drop p) = i) (hl : p + (headLen i + sizeC i) ≤ S.length) (hc : c = valB (S.drop p) i) :
    Told S p s (wrap64 (wrap64 (s.2.1 + s.2.2) + c)) (decide (cls c = i)) (p + (headLen i + sizeC i)) := by
  unfold Told getS candC
  rw [if_neg h0, if_neg (by rw [List.length_drop, ho]; omega), ho, ← hc]
  by_cases h : cls c = i
  · simp [h]
  · simp [h]
theorem wrap_eq (x : Int) : IntKind.i64.wrap x = wrap64 x := IntWalk.i64_left x
set_option maxRecDepth 20000 in
set_option maxHeartbeats 2000000 in
theorem get_first (br : Nat) (B : ByteArray) (p : Nat) (s : St) (w : World) (hr : ReaderAt w br B p) (hs : B.size ≤ 68719476736) (hp : p ≤ 8 * B.size) (h0 : s.1 = 0) :
    Calls Tryd.prog 90 #[.pointer (some ⟨br, 0, none⟩), .agg #[.int .i64 s.1, .int .i64 s.2.1, .int .i64 s.2.2]] w fun e w' => ∃ v ok q, e = .returned (.tuple #[.int .i64 v, .bool ok]) ∧ Told (unpack B.data.toList) p s v ok q ∧ BitsW.Read w br B q w' := by
  have hSl : (unpack B.data.toList).length = 8 * B.size := by rw [unpack_length]; simp
  have HT1 := Lib.hid (fun h => told_first (S := unpack B.data.toList) (p := p) (s := s) h0 h)
  have HT2 := Lib.hid (fun v q h => told_first_no (S := unpack B.data.toList) (p := p) (s := s) (v := v) (q := q) h0 h)
  rw [hSl] at HT1 HT2
  clear hSl
  obtain ⟨N, T, D⟩ := s
  obtain rfl : N = 0 := h0
  have HP := Lib.hid ((RM.start hr).alloc (StObj (0, T, D)))
  clear hr
  go_enter Tryd.func90, Tryd.ntmps90
  go_wp2_with fail
  by_cases hl : p + 64 ≤ 8 * B.size
  · refine (HP.out.get_some 64 (by omega) hs hl).mono ?_
    rintro e w1 ⟨rfl, p1⟩
    have HP1 := Lib.hid p1
    clear p1 HP
    have HTT := Lib.hid (HT1.out hl)
    clear HT1 HT2
    generalize numB ((List.drop p (unpack B.data.toList)).take 64) = V at *
    go_wp2
    go_ret2
    exact ⟨_, true, _, rfl, HTT.out, HP1.out.read⟩
  · refine (HP.out.get_none 64 (by omega) hs hp (by omega)).mono ?_
    rintro e w1 ⟨rfl, p1⟩
    have HP1 := Lib.hid p1
    clear p1 HP
    have HTT := Lib.hid (fun v q => HT2.out v q (by omega))
    clear HT1 HT2
    go_wp2
    go_ret2
    exact ⟨_, false, p, rfl, HTT.out _ _, HP1.out.read⟩
theorem ones_at_false {S : List Bool} {p i : Nat} (hi : i < 4) (hl : p + i < S.length) (ht : (S.drop p).take i = List.replicate i true) (hb : S[p + i]'hl = false) : ones (S.drop p) = i := by
  refine ones_of _ i (by omega) ht (.inr ?_)
  rw [List.drop_drop, List.head?_drop, List.getElem?_eq_getElem hl, hb]
  simp
theorem ones_at_end {S : List Bool} {p i : Nat} (hi : i ≤ 4) (hl : S.length ≤ p + i) (ht : (S.drop p).take i = List.replicate i true) : ones (S.drop p) = i := by
  refine ones_of _ i hi ht (.inr ?_)
  rw [List.drop_drop, List.head?_drop, List.getElem?_eq_none (by omega)]
  simp
theorem take_more_true {S : List Bool} {p i : Nat} (hl : p + i < S.length) (ht : (S.drop p).take i = List.replicate i true) (hb : S[p + i]'hl = true) : (S.drop p).take (i + 1) = List.replicate (i + 1) true := by
  rw [List.take_add_one, ht, List.getElem?_drop, List.getElem?_eq_getElem hl, hb, List.replicate_succ']
  rfl
theorem one_bit {S : List Bool} {q : Nat} (hl : q < S.length) : numB ((S.drop q).take 1) = (S[q]'hl).toNat := by
  rw [List.drop_eq_getElem_cons hl, List.take_succ_cons, List.take_zero]
  cases S[q] <;> rfl
set_option maxRecDepth 20000 in
set_option maxHeartbeats 4000000 in
theorem get_more (br : Nat) (B : ByteArray) (p : Nat) (s : St) (w : World) (hr : ReaderAt w br B p) (hs : B.size ≤ 68719476736) (hp : p ≤ 8 * B.size) (h0 : ¬ s.1 = 0) :
    Calls Tryd.prog 90 #[.pointer (some ⟨br, 0, none⟩), .agg #[.int .i64 s.1, .int .i64 s.2.1, .int .i64 s.2.2]] w fun e w' => ∃ v ok q, e = .returned (.tuple #[.int .i64 v, .bool ok]) ∧ Told (unpack B.data.toList) p s v ok q ∧ BitsW.Read w br B q w' := by
  obtain ⟨S, hS⟩ : ∃ S, unpack B.data.toList = S := ⟨_, rfl⟩
  have hSl : S.length = 8 * B.size := by rw [← hS, unpack_length]; simp
  rw [hS]
  have HSS := Lib.hid (And.intro hS hSl)
  have HT1 := Lib.hid (fun i v q ho hl => told_short (S := S) (p := p) (s := s) (i := i) (v := v) (q := q) h0 ho hl)
  have HT2 := Lib.hid (fun i c ho hl hc => told_val (S := S) (p := p) (s := s) (i := i) (c := c) h0 ho hl hc)
  have hb0 : (s.1 == 0) = false := by simpa using h0
  obtain ⟨N, T, D⟩ := s
  have HP := Lib.hid ((RM.start hr).alloc (StObj (N, T, D)))
  clear hr hS hSl h0
  simp only [] at hb0 ⊢
  go_enter Tryd.func90, Tryd.ntmps90
  go_wp2_with fail
  refine (classes_any _).mono ?_
  rintro e w1 ⟨rfl, hb1⟩
  have HP1 := Lib.hid (HP.out.below hb1)
  clear HP hb1
  obtain ⟨cs, hcs⟩ : ∃ cs, clsCells = cs := ⟨_, rfl⟩
  rw [hcs]
  have hinf : (Tryd.prog.info? 128).map (·.size) = some cs.size := by rw [← hcs]; exact info_cls
  have HI := Lib.hid (show 12 = cs.size ∧ cs.all (·.oneCell') = true by rw [← hcs]; exact ⟨rfl, by kernel_rfl⟩)
  have HS := Lib.hid hcs
  clear hcs
  go_wp2_with (refine wpList_store_fresh rfl 128 _ _ rfl cs rfl rfl 128 _ hinf HI.out.1 HI.out.2 ?_; intro w4 hb4 hc4 hz4; clear hinf)
  have HP4 := Lib.hid (HP1.out.new hb4 hc4)
  clear hb4 hc4 hz4 HP1
  generalize hg : w1.heap.size = g at *
  obtain ⟨L, hL⟩ : ∃ L, [(g, Obj.cells cs 128 (0, 0)), (w.heap.size, StObj (N, T, D))] = L := ⟨_, rfl⟩
  rw [hL] at HP4
  have HLL := Lib.hid hL
  clear hL
  go_loopw [9, 10, 11] (fun v9 _ _ W => ∃ i : Nat, i ≤ 4 ∧ v9 = .int .i64 i ∧ p + i ≤ 8 * B.size ∧ (S.drop p).take i = List.replicate i true ∧ RM w W br B (p + i) L) (fun v9 _ _ _ => 4 - (intOf v9).toNat)
  case atStart => exact ⟨0, by omega, rfl, by omega, rfl, HP4.out⟩
  case round =>
    obtain ⟨i, hi, rfl, hpi, ht, hm⟩ := hrel
    have HTK := Lib.hid ht
    have HM := Lib.hid hm
    clear ht hm
    by_cases hlt : i < 4
    · by_cases hend : p + i + 1 ≤ 8 * B.size
      · have hlen : p + i < S.length := by rw [HSS.out.2]; omega
        have hbit := one_bit hlen
        obtain ⟨b, hb⟩ : ∃ b, S[p + i]'hlen = b := ⟨_, rfl⟩
        rw [hb] at hbit
        have HB := Lib.hid (And.intro hbit (show ∃ h : p + i < S.length, S[p + i]'h = b from ⟨hlen, hb⟩))
        clear hlen hbit hb
        go_wp2_with fail
        refine (HM.out.get_some 1 (by omega) hs hend).mono ?_
        rintro e w5 ⟨rfl, p5⟩
        rw [HSS.out.1, HB.out.1]
        have HM5 := Lib.hid p5
        clear p5
        cases b with
        | true =>
          go_wp2_with fail
          go_roundw
          case rel =>
            refine ⟨i + 1, by omega, by go_num, by omega, ?_, HM5.out⟩
            obtain ⟨h1, h2⟩ := HB.out.2
            exact take_more_true h1 HTK.out h2
          case measure => simp [intOf]; omega
        | false =>
          obtain ⟨hl1, hl2⟩ := HB.out.2
          have HON := Lib.hid (ones_at_false hlt hl1 HTK.out hl2)
          have hcl : ClsAt w5 g := by
            unfold ClsAt; rw [HS.out]
            exact HM5.out.at_ (by rw [← HLL.out]; simp)
          have hbox : StAt w5 w.heap.size (N, T, D) := HM5.out.at_ (by rw [← HLL.out]; simp)
          have c0 := hcl.low i hlt
          have c1 := hcl.size i hlt
          have hsz : sizeC i ≤ 64 := sizeC_le i
          have hhl : headLen i = i + 1 := by unfold headLen; rw [if_pos hlt]
          have HTA := Lib.hid (fun v q => HT1.out i v q HON.out)
          have HTB := Lib.hid (fun c => HT2.out i c HON.out)
          have HVB := Lib.hid (show valB (S.drop p) i = wrap64 ((numB ((S.drop (p + i + 1)).take (sizeC i)) : Int) + lowC i) by unfold valB; rw [hhl, List.drop_drop, Nat.add_assoc])
          rw [hhl] at HTA HTB
          rw [HSS.out.2] at HTA HTB
          generalize lowC i = lo at *
          generalize sizeC i = sz at *
          have i0 : (0 : Int) ≤ (i : Int) := by omega
          have i1 : (i : Int) < 4 := by omega
          clear hcl hl1 hl2 hhl hbox
          go_wp2_with fail
          go_quiet (fail)
          go_wp2_with fail
          by_cases hl : p + i + 1 + sz ≤ 8 * B.size
          · refine ((HM5.out.drewN _).get_some sz hsz hs hl).mono ?_
            rintro e w6 ⟨rfl, p6⟩
            rw [HSS.out.1]
            have hV := numB_take_lt (S.drop (p + i + 1)) sz
            obtain ⟨V, hVV⟩ : ∃ V, numB ((S.drop (p + i + 1)).take sz) = V := ⟨_, rfl⟩
            rw [hVV] at HVB hV
            rw [hVV]
            clear hVV hV
            have HM6 := Lib.hid p6
            have hbox : StAt w6 w.heap.size (N, T, D) := p6.at_ (by rw [← HLL.out]; simp)
            clear p6 c0 c1 HM5
            go_wp2_with fail
            obtain ⟨c, hc⟩ : ∃ c, wrap64 (wrap64 (V : Int) + lo) = c := ⟨_, rfl⟩
            rw [hc]
            have hcv : c = valB (S.drop p) i := by rw [HVB.out, ← hc]; exact wrap_addL _ _
            have HTT := Lib.hid (HTB.out c (by omega) hcv)
            have HOF := Lib.hid (of_any c)
            obtain ⟨kk, hkk⟩ : ∃ kk, cls c = kk := ⟨_, rfl⟩
            rw [hkk] at HTT HOF
            have hbq : ((kk : Int) == (i : Int)) = decide (kk = i) := by
              by_cases h : kk = i
              · subst h; simp
              · rw [decide_eq_false h]; simp; omega
            have hbq2 : (kk == i) = decide (kk = i) := by
              by_cases h : kk = i
              · subst h; simp
              · rw [decide_eq_false h]; simpa using h
            obtain ⟨bb, hbb⟩ : ∃ bb, decide (kk = i) = bb := ⟨_, rfl⟩
            rw [hbb] at hbq hbq2 HTT
            have e1 := hbox.c1
            have e2 := hbox.c2
            have K := Lib.hid (fun (W W' : World) (h : RM w W br B (p + i + 1 + sz) L) (hb' : Below W.heap.size W W') =>
              (⟨h.below hb', StAt.c1 (s := (N, T, D)) ((h.below hb').at_ (by rw [← HLL.out]; simp)), StAt.c2 (s := (N, T, D)) ((h.below hb').at_ (by rw [← HLL.out]; simp))⟩ :
                RM w W' br B (p + i + 1 + sz) L ∧ W'.cell? ⟨w.heap.size, 1, none⟩ = some (.int .i64 T) ∧ W'.cell? ⟨w.heap.size, 2, none⟩ = some (.int .i64 D)))
            have hS0 := K.out _ _ HM6.out (below_self_drew w6)
            clear HTB HTA HVB hcv hc hkk hbb hbox e1 e2 HT1 HT2 HON HTK HM HP4 HI HS
            go_region_held3 (fun W : World => RM w W br B (p + i + 1 + sz) L ∧ W.cell? ⟨w.heap.size, 1, none⟩ = some (.int .i64 T) ∧ W.cell? ⟨w.heap.size, 2, none⟩ = some (.int .i64 D))
              (first | exact hS0 | exact K.out _ _ (And.left (by assumption)) (by assumption))
              ((go_at_call 86; refine (HOF.out _).mono ?_; rintro e w9 ⟨rfl, hb9⟩))
            go_wp2
            go_ret2
            refine ⟨_, _, _, rfl, ?_, (And.left (by assumption) : RM w _ br B (p + i + 1 + sz) L).read⟩
            rw [wrap_eq, wrap_eq]
            have h9 := HTT.out
            rw [show p + (i + 1 + sz) = p + i + 1 + sz by omega] at h9
            exact h9
          · refine ((HM5.out.drewN _).get_none sz hsz hs hend (by omega)).mono ?_
            rintro e w6 ⟨rfl, p6⟩
            have HM6 := Lib.hid p6
            have hbox : StAt w6 w.heap.size (N, T, D) := p6.at_ (by rw [← HLL.out]; simp)
            have e1 := hbox.c1
            have e2 := hbox.c2
            have HTT := Lib.hid (fun v q => HTA.out v q (by omega))
            clear p6 c0 c1 HM5 HTA HTB HVB hbox HT1 HT2 HON HTK HM HP4 HI HS
            go_wp2_with fail
            go_quiet (fail)
            go_wp2
            go_ret2
            exact ⟨_, _, _, rfl, HTT.out _ _, (HM6.out.drewN _).read⟩
      · have HON := Lib.hid (ones_at_end (S := S) hi (by rw [HSS.out.2]; omega) HTK.out)
        have hhl : headLen i = i + 1 := by unfold headLen; rw [if_pos hlt]
        have HTA := Lib.hid (fun v q => HT1.out i v q HON.out (by rw [HSS.out.2, hhl]; omega))
        clear hhl
        go_wp2_with fail
        refine (HM.out.get_none 1 (by omega) hs hpi (by omega)).mono ?_
        rintro e w5 ⟨rfl, p5⟩
        have HM5 := Lib.hid p5
        clear p5
        go_wp2
        go_ret2
        exact ⟨_, _, _, rfl, HTA.out _ _, HM5.out.read⟩
    · obtain rfl : i = 4 := by omega
      have HON := Lib.hid (ones_of (S.drop p) 4 (by omega) HTK.out (.inl rfl))
      have HTA := Lib.hid (fun v q => HT1.out 4 v q HON.out)
      have HTB := Lib.hid (fun c => HT2.out 4 c HON.out)
      have HVB := Lib.hid (show valB (S.drop p) 4 = wrap64 ((numB ((S.drop (p + 4)).take 64) : Int) + 0) by unfold valB; rw [List.drop_drop]; rfl)
      rw [show headLen 4 = 4 from rfl, show sizeC 4 = 64 from rfl, HSS.out.2] at HTA HTB
      go_wp2_with fail
      by_cases hl : p + 4 + 64 ≤ 8 * B.size
      · refine (HM.out.get_some 64 (by omega) hs hl).mono ?_
        rintro e w6 ⟨rfl, p6⟩
        rw [HSS.out.1]
        obtain ⟨V, hVV⟩ : ∃ V, numB ((S.drop (p + 4)).take 64) = V := ⟨_, rfl⟩
        rw [hVV] at HVB
        rw [hVV]
        clear hVV
        have HM6 := Lib.hid p6
        have hbox : StAt w6 w.heap.size (N, T, D) := p6.at_ (by rw [← HLL.out]; simp)
        clear p6
        go_wp2_with fail
        obtain ⟨c, hc⟩ : ∃ c, wrap64 (wrap64 (V : Int)) = c := ⟨_, rfl⟩
        rw [hc]
        have hcv : c = valB (S.drop p) 4 := by rw [HVB.out, ← hc]; rw [wrap_wrap, Int.add_zero]
        have HTT := Lib.hid (HTB.out c (by omega) hcv)
        have HOF := Lib.hid (of_any c)
        obtain ⟨kk, hkk⟩ : ∃ kk, cls c = kk := ⟨_, rfl⟩
        rw [hkk] at HTT HOF
        have hbq : ((kk : Int) == (4 : Int)) = decide (kk = 4) := by
          by_cases h : kk = 4
          · subst h; rfl
          · rw [decide_eq_false h]; simp; omega
        have hbq2 : (kk == 4) = decide (kk = 4) := by
          by_cases h : kk = 4
          · subst h; rfl
          · rw [decide_eq_false h]; simpa using h
        obtain ⟨bb, hbb⟩ : ∃ bb, decide (kk = 4) = bb := ⟨_, rfl⟩
        rw [hbb] at hbq hbq2 HTT
        have e1 := hbox.c1
        have e2 := hbox.c2
        have K := Lib.hid (fun (W W' : World) (h : RM w W br B (p + 4 + 64) L) (hb' : Below W.heap.size W W') =>
          (⟨h.below hb', StAt.c1 (s := (N, T, D)) ((h.below hb').at_ (by rw [← HLL.out]; simp)), StAt.c2 (s := (N, T, D)) ((h.below hb').at_ (by rw [← HLL.out]; simp))⟩ :
            RM w W' br B (p + 4 + 64) L ∧ W'.cell? ⟨w.heap.size, 1, none⟩ = some (.int .i64 T) ∧ W'.cell? ⟨w.heap.size, 2, none⟩ = some (.int .i64 D)))
        have hS0 := K.out _ _ HM6.out (below_self_drew w6)
        clear HTB HTA HVB hcv hc hkk hbb hbox e1 e2 HT1 HT2 HON HTK HM HP4 HI HS
        go_region_held3 (fun W : World => RM w W br B (p + 4 + 64) L ∧ W.cell? ⟨w.heap.size, 1, none⟩ = some (.int .i64 T) ∧ W.cell? ⟨w.heap.size, 2, none⟩ = some (.int .i64 D))
          (first | exact hS0 | exact K.out _ _ (And.left (by assumption)) (by assumption))
          ((go_at_call 86; refine (HOF.out _).mono ?_; rintro e w9 ⟨rfl, hb9⟩))
        go_wp2
        go_ret2
        refine ⟨_, _, _, rfl, ?_, (And.left (by assumption) : RM w _ br B (p + 4 + 64) L).read⟩
        rw [wrap_eq, wrap_eq]
        exact HTT.out
      · refine (HM.out.get_none 64 (by omega) hs hpi (by omega)).mono ?_
        rintro e w6 ⟨rfl, p6⟩
        have HM6 := Lib.hid p6
        have hbox : StAt w6 w.heap.size (N, T, D) := p6.at_ (by rw [← HLL.out]; simp)
        have e1 := hbox.c1
        have e2 := hbox.c2
        have HTT := Lib.hid (fun v q => HTA.out v q (by omega))
        clear p6 HTA HTB HVB hbox HT1 HT2 HON HTK HM HP4 HI HS
        go_wp2_with fail
        go_quiet (fail)
        go_wp2
        go_ret2
        exact ⟨_, _, _, rfl, HTT.out _ _, (HM6.out.drewN _).read⟩
theorem get_in (br : Nat) (B : ByteArray) (p : Nat) (s : St) (w : World) (hr : ReaderAt w br B p) (hs : B.size ≤ 68719476736) (hp : p ≤ 8 * B.size) :
    Calls Tryd.prog 90 #[.pointer (some ⟨br, 0, none⟩), .agg #[.int .i64 s.1, .int .i64 s.2.1, .int .i64 s.2.2]] w fun e w' => ∃ v ok q, e = .returned (.tuple #[.int .i64 v, .bool ok]) ∧ Told (unpack B.data.toList) p s v ok q ∧ BitsW.Read w br B q w' := by
  by_cases h0 : s.1 = 0
  · exact get_first br B p s w hr hs hp h0
  · exact get_more br B p s w hr hs hp h0
theorem info_rd : (Tryd.prog.info? 135).map (·.size) = some 2 := by kernel_rfl
/-- What Get tells. -/
def gotS (S : List Bool) (p : Nat) (s : St) : St × Bool × Nat := match getS (S.drop p) s with
  | none => (s, false, p)
  | some (t, k) => (aftS s t, true, p + k)
set_option maxRecDepth 20000 in
set_option maxHeartbeats 4000000 in
theorem get_time (br : Nat) (B : ByteArray) (p : Nat) (s : St) (w : World) (hr : ReaderAt w br B p) (hs : B.size ≤ 68719476736) (hp : p ≤ 8 * B.size) :
    Calls Tryd.prog 77 #[.pointer (some ⟨br, 0, none⟩), .agg #[.int .i64 s.1, .int .i64 s.2.1, .int .i64 s.2.2]] w fun e w' =>
      e = .returned (.tuple #[.agg #[.int .i64 (gotS (unpack B.data.toList) p s).1.1, .int .i64 (gotS (unpack B.data.toList) p s).1.2.1, .int .i64 (gotS (unpack B.data.toList) p s).1.2.2], .bool (gotS (unpack B.data.toList) p s).2.1]) ∧ BitsW.Read w br B (gotS (unpack B.data.toList) p s).2.2 w' := by
  obtain ⟨S, hS⟩ : ∃ S, unpack B.data.toList = S := ⟨_, rfl⟩
  have HG : Hid (∀ W b2, ReaderAt W b2 B p → Calls Tryd.prog 90 #[.pointer (some ⟨b2, 0, none⟩), .agg #[.int .i64 s.1, .int .i64 s.2.1, .int .i64 s.2.2]] W fun e w' => ∃ v ok q, e = .returned (.tuple #[.int .i64 v, .bool ok]) ∧ Told S p s v ok q ∧ BitsW.Read W b2 B q w') :=
    Lib.hid fun W b2 h => by rw [← hS]; exact get_in b2 B p s W h hs hp
  have HAF := Lib.hid (fun t => after_any s t)
  rw [hS]
  clear hS
  obtain ⟨G, hG⟩ : ∃ G, gotS S p s = G := ⟨_, rfl⟩
  rw [hG]
  obtain ⟨⟨x, y, z⟩, gok, Q⟩ := G
  have HGG := Lib.hid hG
  clear hG
  obtain ⟨N, T, D⟩ := s
  simp only [] at HAF ⊢
  have h2 := ((RM.start hr).alloc (StObj (N, T, D))).alloc (StObj (0, 0, 0))
  have d0 : ((w.alloc (.cells #[.int .i64 N, .int .i64 T, .int .i64 D] 104)).alloc (.cells #[.int .i64 0, .int .i64 0, .int .i64 0] 104)).cell? ⟨br, 0, none⟩ = some (.string B) := h2.rd.f0
  have d1 : ((w.alloc (.cells #[.int .i64 N, .int .i64 T, .int .i64 D] 104)).alloc (.cells #[.int .i64 0, .int .i64 0, .int .i64 0] 104)).cell? ⟨br, 1, none⟩ = some (.int .i64 (p : Int)) := h2.rd.f1
  have HP := Lib.hid (h2.alloc (.cells #[.string B, .int .i64 (p : Int)] 135 (0, 0)))
  clear hr h2
  go_enter Tryd.func77, Tryd.ntmps77
  go_wp2_with fail
  have hrd2 : ReaderAt (((w.alloc (StObj (N, T, D))).alloc (StObj (0, 0, 0))).alloc (.cells #[.string B, .int .i64 (p : Int)] 135 (0, 0))) (w.heap.size + 1 + 1) B p := by
    have := HP.out.at_ (k := w.heap.size + 1 + 1) (o := .cells #[.string B, .int .i64 (p : Int)] 135 (0, 0)) (by simp)
    exact this
  have hP2 : RM w (((w.alloc (StObj (N, T, D))).alloc (StObj (0, 0, 0))).alloc (.cells #[.string B, .int .i64 (p : Int)] 135 (0, 0))) br B p ((w.heap.size + 1 + 1, .cells #[.string B, .int .i64 (p : Int)] 135 (0, 0)) :: [(w.heap.size + 1, StObj (0, 0, 0)), (w.heap.size, StObj (N, T, D))]) := by
    have := HP.out
    simpa using this
  refine (HG.out _ _ hrd2).mono ?_
  rintro e w4 ⟨v, ok, q, rfl, htold, hread⟩
  have HP4 := Lib.hid (hP2.other (fun x hx => by simp at hx; rcases hx with rfl | rfl <;> (show _ ≠ w.heap.size + 1 + 1; simp; try omega)) hread)
  have HR4 := Lib.hid hread.rd
  clear hrd2 hP2 hread HP HG d0 d1
  have hbox : StAt w4 w.heap.size (N, T, D) := HP4.out.at_ (by simp)
  have hres : StAt w4 (w.heap.size + 1) (0, 0, 0) := HP4.out.at_ (by simp)
  cases hg : getS (S.drop p) (N, T, D) with
  | none =>
    obtain rfl : ok = false := by unfold Told at htold; rw [hg] at htold; exact htold
    have hG : ((N, T, D), false, p) = ((x, y, z), gok, Q) := by rw [← HGG.out]; unfold gotS; rw [hg]
    simp only [Prod.mk.injEq] at hG
    obtain ⟨⟨rfl, rfl, rfl⟩, rfl, rfl⟩ := hG
    have c0 := hbox.c0
    have c1 := hbox.c1
    have c2 := hbox.c2
    clear htold hg hbox
    go_wp2_with (refine wpList_store_row rfl 104 _ _ rfl (w.heap.size + 1) #[.int .i64 N, .int .i64 T, .int .i64 D] rfl rfl 104 _ hres info_st rfl (by simp [Value.oneCell']) ?_)
    have hr2 : (w4.setRow (w.heap.size + 1) #[.int .i64 N, .int .i64 T, .int .i64 D]).heap[w.heap.size + 1]? = some (.cells #[.int .i64 N, .int .i64 T, .int .i64 D] 104 (0, 0)) := setRow_heap w4 _ _ _ _ _ hres
    have r0 := StAt.c0 (s := (N, T, D)) hr2
    have r1 := StAt.c1 (s := (N, T, D)) hr2
    have r2 := StAt.c2 (s := (N, T, D)) hr2
    refine bodyPost_ret (v := .tuple #[.agg #[.int .i64 N, .int .i64 T, .int .i64 D], .bool false]) ?_ rfl ⟨rfl, (HP4.out.setOwn (o := StObj (0, 0, 0)) (by simp) _).read⟩
    simp [results, Tryd.results77, go_sem, r0, r1, r2]
  | some x =>
    obtain ⟨t, k⟩ := x
    obtain ⟨rfl, rfl, rfl⟩ : ok = true ∧ v = t ∧ q = p + k := by unfold Told at htold; rw [hg] at htold; exact htold
    have hG : (aftS (N, T, D) v, true, p + k) = ((x, y, z), gok, Q) := by rw [← HGG.out]; unfold gotS; rw [hg]
    simp only [Prod.mk.injEq] at hG
    obtain ⟨hs', rfl, hQ⟩ := hG
    rw [hQ] at HR4
    have HAV := Lib.hid (HAF.out v)
    rw [hs'] at HAV
    have f0 := HR4.out.f0
    have f1 := HR4.out.f1
    have hrd := HP4.out.rd
    have HP5 := Lib.hid (HP4.out.setReader Q)
    clear htold hg hbox hres HP4 HGG hQ hs' HAF
    simp only [] at HAV
    go_wp2_with (refine wpList_store_row rfl 135 _ _ rfl br #[.string B, .int .i64 (Q : Int)] rfl rfl 135 _ hrd info_rd rfl (by simp [Value.oneCell']) ?_; clear hrd; generalize hw5 : w4.setRow br #[.string B, .int .i64 (Q : Int)] = w5 at HP5 ⊢; clear hw5; have c0 : w5.cell? ⟨w.heap.size, 0, none⟩ = some (.int .i64 N) := StAt.c0 (s := (N, T, D)) (HP5.out.at_ (by simp)); have c1 : w5.cell? ⟨w.heap.size, 1, none⟩ = some (.int .i64 T) := StAt.c1 (s := (N, T, D)) (HP5.out.at_ (by simp)); have c2 : w5.cell? ⟨w.heap.size, 2, none⟩ = some (.int .i64 D) := StAt.c2 (s := (N, T, D)) (HP5.out.at_ (by simp)))
    refine (HAV.out _).mono ?_
    rintro e w6 ⟨rfl, hb6⟩
    have HP6 := Lib.hid (HP5.out.below hb6)
    clear hb6 HP5 c0 c1 c2 HAV
    have hres : StAt w6 (w.heap.size + 1) (0, 0, 0) := HP6.out.at_ (by simp)
    go_wp2_with (refine wpList_store_row rfl 104 _ _ rfl (w.heap.size + 1) #[.int .i64 x, .int .i64 y, .int .i64 z] rfl rfl 104 _ hres info_st rfl (by simp [Value.oneCell']) ?_)
    have hr2 : (w6.setRow (w.heap.size + 1) #[.int .i64 x, .int .i64 y, .int .i64 z]).heap[w.heap.size + 1]? = some (.cells #[.int .i64 x, .int .i64 y, .int .i64 z] 104 (0, 0)) := setRow_heap w6 _ _ _ _ _ hres
    have r0 := StAt.c0 (s := (x, y, z)) hr2
    have r1 := StAt.c1 (s := (x, y, z)) hr2
    have r2 := StAt.c2 (s := (x, y, z)) hr2
    refine bodyPost_ret (v := .tuple #[.agg #[.int .i64 x, .int .i64 y, .int .i64 z], .bool true]) ?_ rfl ⟨rfl, (HP6.out.setOwn (o := StObj (0, 0, 0)) (by simp) _).read⟩
    simp [results, Tryd.results77, go_sem, r0, r1, r2]
end Go.Proofs.YtdidengokijcjaaDoor.StW
/-
  TIMES AS BITS: All, Read, WALKED.
-/
namespace Go.Proofs.YtdidengokijcjaaDoor.StW
open Go.RowKit Go.Shelf BitsM BitsW StM
def encI (x : Int) : List Value := [.int .i64 x]
theorem int_cells {w : World} {A : Option Addr} {l : List Int} (h : Lies w w.heap.size 1 encI A l) {k : Nat} (hk : k < l.length) :
    ∃ b o, A = some ⟨b, o, none⟩ ∧ ∀ W, Below w.heap.size w W → W.cell? ⟨b, o + k, none⟩ = some (.int .i64 l[k]) := by
  obtain ⟨b, o, hA, _, hc⟩ := h.all hk
  exact ⟨b, o, hA, fun W hW => by have := hc W hW 0 _ rfl; simpa using this⟩
theorem PM.time {w W : World} {bw : Nat} {rb0 : Option Nat} {b : List Bool} {L : List (Nat × Obj)} (h : PM w W bw rb0 b L) (hl : b.length + 200 ≤ 1099511627776) (s : St) (t : Int) :
    Calls Tryd.prog 72 #[.pointer (some ⟨bw, 0, none⟩), .agg #[.int .i64 s.1, .int .i64 s.2.1, .int .i64 s.2.2], .int .i64 t] W fun e W' => e = .returned (.agg #[.int .i64 (aftS s t).1, .int .i64 (aftS s t).2.1, .int .i64 (aftS s t).2.2]) ∧ PM w W' bw rb0 (b ++ putS s t) L := by
  obtain ⟨rb, h1, h2⟩ := h.wr
  refine (put_time bw rb b s t W h1 hl).mono ?_
  rintro e W' ⟨rfl, q⟩
  exact ⟨rfl, h.step h2 q⟩
def s0 : St := (0, 0, 0)
set_option maxRecDepth 20000 in
set_option maxHeartbeats 4000000 in
theorem all_any (A : Option Addr) (n c : Nat) (l : List Int) (w : World) (hl : Comes w 1 encI okI A n c l) (hn : n ≤ 1000000) :
    Calls Tryd.prog 61 #[.slice A n c] w fun e w' => e = .returned (.string ⟨(pack (bitsAll s0 l)).toArray⟩) ∧ Below w.heap.size w w' := by
  have HL := Lib.hid hl
  have hcap : c ≤ 9223372036854775807 := hl.cap
  have hle := hl.le
  clear hl
  go_enter Tryd.func61, Tryd.ntmps61
  go_wp2_with fail
  refine (newWriter_any _).mono ?_
  rintro e w1 ⟨rfl, hw1, hb1, hz1⟩
  have HP1 := Lib.hid ((PM.start hw1).alloc (StObj s0))
  have HB1 := Lib.hid hb1
  clear hw1 hb1 hz1
  go_wp2_with fail
  have HP2 : Hid (PM w1 (w1.alloc (StObj s0)) w.heap.size none [] [(w1.heap.size, StObj s0)]) := HP1
  go_loopw [6, 10] (fun _ v10 wr => ∃ k : Nat, k ≤ n ∧ v10 = .int .i64 k ∧ PM w1 wr w.heap.size none (bitsAll s0 (l.take k)) [(w1.heap.size, StObj (stAll s0 (l.take k)))]) (fun _ v10 _ => n - (intOf v10).toNat)
  case atStart => exact ⟨0, Nat.zero_le _, rfl, HP2.out⟩
  case round =>
    obtain ⟨k, hk, rfl, ho⟩ := hrel
    have hln := HL.out.len
    by_cases hlt : k < n
    · have hkl : k < l.length := by omega
      obtain ⟨b, o, rfl, hcs⟩ := int_cells HL.out.lies hkl
      have hc0 := hcs _ (ho.since HB1.out (Nat.le_refl _))
      have htk := take_snocL l k hkl
      have e1 : bitsAll s0 (l.take (k + 1)) = bitsAll s0 (l.take k) ++ putS (stAll s0 (l.take k)) l[k] := by rw [htk, bitsAll_snoc]
      have e2 : stAll s0 (l.take (k + 1)) = aftS (stAll s0 (l.take k)) l[k] := by rw [htk, stAll_snoc]
      have hbl := bitsAll_len s0 (l.take k)
      rw [List.length_take, Nat.min_eq_left (by omega)] at hbl
      have hst : StAt wr w1.heap.size (stAll s0 (l.take k)) := ho.at_ (by simp)
      generalize l[k] = t at *
      generalize bitsAll s0 (l.take k) = bs at *
      generalize stAll s0 (l.take k) = s at *
      have HE := Lib.hid (And.intro e1 (And.intro e2 hbl))
      have HO := Lib.hid ho
      obtain ⟨N, T, D⟩ := s
      have c0 := hst.c0
      have c1 := hst.c1
      have c2 := hst.c2
      have i0 : (0 : Int) ≤ (k : Int) := by omega
      have i1 : (k : Int) < (n : Int) := by omega
      clear ho hln hcs htk e1 e2 hbl hst
      go_wp2_with fail
      refine (PM.time HO.out (by have := HE.out.2.2; omega) (N, T, D) t).mono ?_
      rintro e w3 ⟨rfl, p3⟩
      have HO3 := Lib.hid p3
      have hst : StAt w3 w1.heap.size (N, T, D) := p3.at_ (by simp)
      rw [← HE.out.2.1]
      rw [← HE.out.1] at HO3
      generalize hs' : stAll s0 (l.take (k + 1)) = s' at *
      obtain ⟨x, y, z⟩ := s'
      clear p3 c0 c1 c2 HO hc0
      go_wp2_with (refine wpList_store_row rfl 104 _ _ rfl w1.heap.size #[.int .i64 x, .int .i64 y, .int .i64 z] rfl rfl 104 _ hst info_st rfl (by simp [Value.oneCell']) ?_; have HO4 := Lib.hid (HO3.out.setOne #[.int .i64 x, .int .i64 y, .int .i64 z]); clear hst; generalize w3.setRow w1.heap.size #[.int .i64 x, .int .i64 y, .int .i64 z] = w4 at HO4 ⊢)
      go_roundw
      case rel =>
        exact ⟨k + 1, by omega, by go_num, by rw [hs']; exact HO4.out⟩
      case measure => simp [intOf]; omega
    · obtain rfl : k = n := by omega
      rw [List.take_of_length_le (by omega)] at ho
      have HO := Lib.hid ho
      have HB := Lib.hid (ho.since HB1.out (Nat.le_refl _))
      clear ho
      go_wp2_with fail
      refine HO.out.bytes.mono ?_
      rintro e w' ⟨rfl, rfl⟩
      go_wp2
      go_ret
      exact ⟨rfl, HB.out⟩
/-- The times that bytes are. -/
def readB (S : List Bool) (n : Int) : Option (List Int) :=
  if n < 0 ∨ 10000 < n then none else (readS S n.toNat s0).bind fun x : List Int × List Bool => if cleanB x.2 then some x.1 else none
theorem elemI64 : Elem Tryd.prog 2 (.int .i64 0) 1 8 := by unfold Elem; kernel_rfl
theorem readS_step (S : List Bool) (p m : Nat) (s : St) : readS (S.drop p) (m + 1) s = match getS (S.drop p) s with | none => none | some (t, k) => (readS (S.drop (p + k)) m (aftS s t)).map fun x : List Int × List Bool => (t :: x.1, x.2) := by
  show (match getS (S.drop p) s with | none => none | some (t, k) => (readS ((S.drop p).drop k) m (aftS s t)).map fun x : List Int × List Bool => (t :: x.1, x.2)) = _
  cases getS (S.drop p) s with
  | none => rfl
  | some x => simp only [List.drop_drop]
theorem gotS_le {S : List Bool} {p : Nat} {s : St} (hs : okSt s) (hp : p ≤ S.length) : (gotS S p s).2.2 ≤ S.length := by
  unfold gotS
  cases h : getS (S.drop p) s with
  | none => exact hp
  | some x =>
    obtain ⟨t, k⟩ := x
    obtain ⟨-, -, -, h4⟩ := put_get _ _ _ _ hs h
    rw [List.length_drop] at h4
    show p + k ≤ _; omega
theorem aft_T (s : St) (t : Int) : (aftS s t).2.1 = t := by unfold aftS; split <;> rfl
set_option maxRecDepth 20000 in
set_option maxHeartbeats 4000000 in
theorem read_far (B : ByteArray) (n : Int) (w : World) (hn : n < 0 ∨ 10000 < n) :
    Calls Tryd.prog 63 #[.string B, .int .i64 n] w fun e w' => e = .returned (.tuple #[.slice none 0 0, .bool false]) ∧ Below w.heap.size w w' := by
  go_enter Tryd.func63, Tryd.ntmps63
  by_cases h : n < 0
  · go_wp2
    go_ret2
    exact ⟨rfl, Below.refl _ _⟩
  · have h2 : 10000 < n := by omega
    go_wp2
    go_ret2
    exact ⟨rfl, Below.refl _ _⟩
set_option maxRecDepth 20000 in
set_option maxHeartbeats 4000000 in
theorem read_near (B : ByteArray) (n : Nat) (w : World) (hs : B.size ≤ 68719476736) (hn : n ≤ 10000) :
    Calls Tryd.prog 63 #[.string B, .int .i64 (n : Int)] w fun e w' => ∃ v, e = .returned (.tuple #[v, .bool (readB (unpack B.data.toList) n).isSome]) ∧ w'.ownsRow w.heap.size 2 1 v ((readB (unpack B.data.toList) n).getD []).length (((readB (unpack B.data.toList) n).getD []).flatMap encI) ∧ Below w.heap.size w w' := by
  obtain ⟨S, hS⟩ : ∃ S, unpack B.data.toList = S := ⟨_, rfl⟩
  have hSl : S.length = 8 * B.size := by rw [← hS, unpack_length]; simp
  have HGT : Hid (∀ W br p s, ReaderAt W br B p → p ≤ 8 * B.size → Calls Tryd.prog 77 #[.pointer (some ⟨br, 0, none⟩), .agg #[.int .i64 s.1, .int .i64 s.2.1, .int .i64 s.2.2]] W fun e w' =>
      e = .returned (.tuple #[.agg #[.int .i64 (gotS S p s).1.1, .int .i64 (gotS S p s).1.2.1, .int .i64 (gotS S p s).1.2.2], .bool (gotS S p s).2.1]) ∧ BitsW.Read W br B (gotS S p s).2.2 w') :=
    Lib.hid fun W br p s h1 h2 => by rw [← hS]; exact get_time br B p s W h1 hs h2
  have HCL : Hid (∀ W br p, ReaderAt W br B p → p ≤ 8 * B.size → Calls Tryd.prog 78 #[.pointer (some ⟨br, 0, none⟩)] W fun e w' => e = .returned (.bool (cleanB (S.drop p))) ∧ Below W.heap.size W w') :=
    Lib.hid fun W br p h1 h2 => by rw [← hS]; exact clean_any br B p W h1 hs h2
  rw [hS]
  obtain ⟨R, hR⟩ : ∃ R, readB S n = R := ⟨_, rfl⟩
  rw [hR]
  have HR : Hid (R = (readS S n s0).bind fun x : List Int × List Bool => if cleanB x.2 then some x.1 else none) := Lib.hid (by
    rw [← hR]; unfold readB; rw [if_neg (by omega), Int.toNat_natCast])
  have HSL := Lib.hid hSl
  clear hS hSl hR
  go_enter Tryd.func63, Tryd.ntmps63
  go_wp2_with fail
  refine (newReader_any _ _).mono ?_
  rintro e w1 ⟨rfl, hw1, hb1, hz1⟩
  have HP1 : Hid (RM w1 (w1.alloc (StObj s0)) w.heap.size B 0 [(w1.heap.size, StObj s0)]) := Lib.hid ((RM.start hw1).alloc (StObj s0))
  have HB1 := Lib.hid (And.intro hb1 hz1)
  clear hw1 hb1 hz1
  go_wp2_with fail
  go_loopw [8, 9, 10, 20] (fun v8 _ _ v20 wr => ∃ (i p : Nat) (s : St) (o : List Int), i ≤ n ∧ v20 = .int .i64 i ∧ p ≤ 8 * B.size ∧ o.length = i ∧ okSt s ∧ readS S n s0 = (readS (S.drop p) (n - i) s).map (fun x : List Int × List Bool => (o ++ x.1, x.2)) ∧
      RM w1 wr w.heap.size B p [(w1.heap.size, StObj s)] ∧ w1.heap.size + 1 ≤ wr.heap.size ∧ wr.ownsRow (w1.heap.size + 1) 2 1 v8 o.length (o.flatMap encI)) (fun _ _ _ v20 _ => n - (intOf v20).toNat)
  case atStart =>
    refine ⟨0, 0, s0, [], Nat.zero_le _, rfl, Nat.zero_le _, rfl, (show okSt (0, 0, 0) by unfold okSt okI; simp), ?_, HP1.out, by simp, World.ownsRow_nil _ _ _ _⟩
    simp
  case round =>
    obtain ⟨i, p, s, o, hi, rfl, hp, hol, hok, hrd, hm, hsz, hown⟩ := hrel
    have HM := Lib.hid hm
    have HW := Lib.hid hown
    have HRD := Lib.hid (And.intro hrd (And.intro hol hok))
    have HZ := Lib.hid hsz
    have hst : StAt wr w1.heap.size s := hm.at_ (by simp)
    clear hm hown hrd hol hok hsz
    by_cases hlt : i < n
    · obtain ⟨N, T, D⟩ := s
      have c0 := hst.c0
      have c1 := hst.c1
      have c2 := hst.c2
      have i0 : (0 : Int) ≤ (i : Int) := by omega
      have i1 : (i : Int) < (n : Int) := by omega
      clear hst
      go_wp2_with fail
      refine (HGT.out _ _ p (N, T, D) HM.out.rd hp).mono ?_
      rintro e w3 ⟨rfl, hread⟩
      have hm3 := HM.out.got hread
      have hown3 : w3.ownsRow (w1.heap.size + 1) 2 1 _ o.length (o.flatMap encI) := own_but HW.out (by have := HB1.out.2; omega) hread.size hread.old
      have hz3 : w1.heap.size + 1 ≤ w3.heap.size := Nat.le_trans HZ.out hread.size
      have hqle := gotS_le (S := S) HRD.out.2.2 (by rw [HSL.out]; exact hp)
      rw [HSL.out] at hqle
      have hni : n - i = (n - (i + 1)) + 1 := by omega
      have hstep := readS_step S p (n - (i + 1)) (N, T, D)
      rw [← hni] at hstep
      cases hg : getS (S.drop p) (N, T, D) with
      | none =>
        have hG : gotS S p (N, T, D) = ((N, T, D), false, p) := by unfold gotS; rw [hg]
        rw [hG]
        have hRn : R = none := by
          rw [HR.out, HRD.out.1, hstep, hg]; rfl
        have HBF := Lib.hid (hm3.since HB1.out.1 (Nat.le_refl _))
        clear hstep hg hG hqle hm3 hown3 hread c0 c1 c2
        go_wp2_with fail
        go_ret2
        refine ⟨.slice none 0 0, ?_, ?_, ?_⟩
        · rw [hRn]; rfl
        · rw [hRn]; exact World.ownsRow_nil _ _ _ _
        · exact HBF.out.alloc HBF.out.size _
      | some x =>
        obtain ⟨t, k⟩ := x
        have hG : gotS S p (N, T, D) = (aftS (N, T, D) t, true, p + k) := by unfold gotS; rw [hg]
        rw [hG] at hqle hm3 ⊢
        rw [hg] at hstep
        simp only [] at hstep
        have hput := put_get _ _ _ _ HRD.out.2.2 hg
        have hok2 := okSt_aft HRD.out.2.2 hput.1
        have hT := aft_T (N, T, D) t
        generalize aftS (N, T, D) t = s' at *
        obtain ⟨x, y, z⟩ := s'
        obtain rfl : y = t := hT
        obtain ⟨q, hq⟩ : ∃ q, p + k = q := ⟨_, rfl⟩
        simp only [hq] at hqle hm3 hstep
        have HM3 := Lib.hid hm3
        have HO3 := Lib.hid hown3
        have HS := Lib.hid (And.intro hstep hok2)
        have HQ := Lib.hid hqle
        have hz1 := HB1.out.2
        have hbig : Hid (RM w1 (w3.alloc (.cells #[.int .i64 x, .int .i64 y, .int .i64 z] 104 (0, 0))) w.heap.size B q [(w1.heap.size, StObj (N, T, D))]) := Lib.hid (hm3.below ((Below.refl _ _).alloc (Nat.le_refl _) _))
        have HO4 : Hid ((w3.alloc (.cells #[.int .i64 x, .int .i64 y, .int .i64 z] 104 (0, 0))).ownsRow (w1.heap.size + 1) 2 1 _ o.length (o.flatMap encI)) := Lib.hid (hown3.alloc _)
        have hst : StAt (w3.alloc (.cells #[.int .i64 x, .int .i64 y, .int .i64 z] 104 (0, 0))) w1.heap.size (N, T, D) := hbig.out.at_ (by simp)
        clear hstep hok2 hput hg hG hqle hm3 hown3 hread c0 c1 c2 HM HW
        go_wp2_with (first
          | (refine wpList_store_row rfl 104 _ _ rfl w1.heap.size #[.int .i64 x, .int .i64 y, .int .i64 z] rfl rfl 104 _ hst info_st rfl (by simp [Value.oneCell']) ?_
             have HM5 := Lib.hid (hbig.out.setOne #[.int .i64 x, .int .i64 y, .int .i64 z])
             have hown5 := own_but (w' := (w3.alloc (.cells #[.int .i64 x, .int .i64 y, .int .i64 z] 104 (0, 0))).setRow w1.heap.size #[.int .i64 x, .int .i64 y, .int .i64 z]) HO4.out (Nat.lt_succ_self _) (by simp) (fun j _ hj => setRow_other _ _ _ _ hj)
             have hz5 : w1.heap.size + 1 ≤ ((w3.alloc (.cells #[.int .i64 x, .int .i64 y, .int .i64 z] 104 (0, 0))).setRow w1.heap.size #[.int .i64 x, .int .i64 y, .int .i64 z]).heap.size := by simp; omega
             clear hst HO4 hbig
             generalize (w3.alloc (.cells #[.int .i64 x, .int .i64 y, .int .i64 z] 104 (0, 0))).setRow w1.heap.size #[.int .i64 x, .int .i64 y, .int .i64 z] = w5 at HM5 hown5 hz5 ⊢
             have d1 : w5.cell? ⟨w1.heap.size, 1, none⟩ = some (.int .i64 y) := StAt.c1 (s := (x, y, z)) (HM5.out.at_ (by simp [StObj])))
          | (at_builtin; go_must (refine wpList_append_one rfl _ _ 52 rfl (w1.heap.size + 1) 2 (.int .i64 0) 1 8 Tryd.underlying52 elemI64 rfl (by decide) w5 hown5 rfl _ rfl rfl (one1 rfl) (by have := HRD.out.2.1; omega) (by have := HRD.out.2.1; omega) hz5 ?_); intro v' w' hown' hb' hz'; clear hown5))
        refine ⟨⟨i + 1, q, (x, y, z), o ++ [y], by omega, by go_num, by have := HM5.out; exact HQ.out, by rw [List.length_append, HRD.out.2.1]; rfl, HS.out.2, ?_, ?_, by omega, ?_⟩, by simp [intOf]; omega⟩
        · rw [HRD.out.1, HS.out.1, Option.map_map]
          congr 1
          funext x
          simp
        · exact HM5.out.belowB hb' (by omega) (fun x hx => by rw [List.mem_singleton.1 hx]; simp) (by omega)
        · rw [List.length_append, List.flatMap_append]
          exact hown'
    · obtain rfl : i = n := by omega
      have hRn : R = if cleanB (S.drop p) then some o else none := by
        rw [HR.out, HRD.out.1, Nat.sub_self]
        show (((some ([], S.drop p)).map fun x : List Int × List Bool => (o ++ x.1, x.2)).bind _) = _
        simp
      have HRN := Lib.hid hRn
      clear hRn hst
      go_wp2_with fail
      refine (HCL.out _ _ p HM.out.rd hp).mono ?_
      rintro e w3 ⟨rfl, hb3⟩
      have HBF := Lib.hid (later (HM.out.since HB1.out.1 (Nat.le_refl _)) hb3)
      have HO3 := Lib.hid (own_base (own_later HW.out hb3) (b2 := w.heap.size) (by have := HB1.out.2; omega))
      obtain ⟨C, hC⟩ : ∃ C, cleanB (S.drop p) = C := ⟨_, rfl⟩
      rw [hC] at HRN ⊢
      clear hb3 hC
      cases C with
      | true =>
        have hRt : R = some o := by rw [HRN.out, if_pos rfl]
        go_wp2
        go_ret2
        subst hRt
        exact ⟨_, rfl, HO3.out, HBF.out⟩
      | false =>
        have hRt : R = none := by rw [HRN.out]; rfl
        go_wp2
        go_ret2
        subst hRt
        exact ⟨_, rfl, World.ownsRow_nil _ _ _ _, HBF.out⟩
end Go.Proofs.YtdidengokijcjaaDoor.StW
/-
  EQUALITY OF STRUCTS OF ONE-CELL FIELDS, AS RUN EQUATIONS.
-/
namespace Go.Proofs.YtdidengokijcjaaDoor.StW
open Go.RowKit
def sameSt (x1 y1 : Int) (x2 y2 : Int) (x3 y3 : Int) : Bool := (x1 == y1) && (x2 == y2) && (x3 == y3)
set_option maxRecDepth 100000 in
theorem equal_St (x1 y1 : Int) (x2 y2 : Int) (x3 y3 : Int) (w : World) : (Op.equalIn 10000 104 (.agg #[.int .i64 x1, .int .i64 x2, .int .i64 x3]) (.agg #[.int .i64 y1, .int .i64 y2, .int .i64 y3])).run Tryd.prog w = .ok (sameSt x1 y1 x2 y2 x3 y3) w := by
  have ht : Tryd.prog.underlying 104 = some (.struct (Tryd.prog.fieldsOf 104)) := by kernel_rfl
  have hp : Tryd.prog.stoodInHeld 104 = false := by kernel_rfl
  rw [run_equalIn_agg _ _ _ _ _ ht hp]
  unfold Program.fieldsOf sameSt
  rw [Tryd.underlying104]
  clear ht hp
  have e0 := fun d a b => run_equalIn_int (P := Tryd.prog) w d 3 .i64 .i64 a b Tryd.underlying3
  have e1 := fun d a b => run_equalIn_int (P := Tryd.prog) w d 2 .i64 .i64 a b Tryd.underlying2
  simp (decide := true) only [Op.eqFields, Sem.run_ite, Sem.run_bind, Sem.run_pure, part, Tryd.isAgg3, Tryd.isAgg2, Result.andThen_ok, if_false, if_true, show (#[.int .i64 x1, .int .i64 x2, .int .i64 x3] : Array Value)[0]? = some (.int .i64 x1) from rfl, show (#[.int .i64 x1, .int .i64 x2, .int .i64 x3] : Array Value)[1]? = some (.int .i64 x2) from rfl, show (#[.int .i64 x1, .int .i64 x2, .int .i64 x3] : Array Value)[2]? = some (.int .i64 x3) from rfl, show (#[.int .i64 y1, .int .i64 y2, .int .i64 y3] : Array Value)[0]? = some (.int .i64 y1) from rfl, show (#[.int .i64 y1, .int .i64 y2, .int .i64 y3] : Array Value)[1]? = some (.int .i64 y2) from rfl, show (#[.int .i64 y1, .int .i64 y2, .int .i64 y3] : Array Value)[2]? = some (.int .i64 y3) from rfl, e0 9998, e1 9998]
  cases (x1 == y1) <;> cases (x2 == y2) <;> cases (x3 == y3) <;> rfl
theorem neq_St (x1 y1 : Int) (x2 y2 : Int) (x3 y3 : Int) : ∀ w, (binOp .neq 104 (.agg #[.int .i64 x1, .int .i64 x2, .int .i64 x3]) (.agg #[.int .i64 y1, .int .i64 y2, .int .i64 y3])).run Tryd.prog w = .ok (.bool (!sameSt x1 y1 x2 y2 x3 y3)) w := fun w => by
  rw [run_neq_struct, equal_St]; rfl
theorem eql_St (x1 y1 : Int) (x2 y2 : Int) (x3 y3 : Int) : ∀ w, (binOp .eql 104 (.agg #[.int .i64 x1, .int .i64 x2, .int .i64 x3]) (.agg #[.int .i64 y1, .int .i64 y2, .int .i64 y3])).run Tryd.prog w = .ok (.bool (sameSt x1 y1 x2 y2 x3 y3)) w := fun w => by
  rw [run_eql_struct, equal_St]; rfl
theorem guard_St : Tryd.prog.eqGuardType Tryd.prog.depth 104 = false := by kernel_rfl
def sameRt (x1 y1 : Int) (x2 y2 : Int) (x3 y3 : Int) : Bool := (x1 == y1) && (x2 == y2) && (x3 == y3)
set_option maxRecDepth 100000 in
theorem equal_Rt (x1 y1 : Int) (x2 y2 : Int) (x3 y3 : Int) (w : World) : (Op.equalIn 10000 76 (.agg #[.int .i64 x1, .int .i64 x2, .int .i64 x3]) (.agg #[.int .i64 y1, .int .i64 y2, .int .i64 y3])).run Tryd.prog w = .ok (sameRt x1 y1 x2 y2 x3 y3) w := by
  have ht : Tryd.prog.underlying 76 = some (.struct (Tryd.prog.fieldsOf 76)) := by kernel_rfl
  have hp : Tryd.prog.stoodInHeld 76 = false := by kernel_rfl
  rw [run_equalIn_agg _ _ _ _ _ ht hp]
  unfold Program.fieldsOf sameRt
  rw [Tryd.underlying76]
  clear ht hp
  have e0 := fun d a b => run_equalIn_int (P := Tryd.prog) w d 3 .i64 .i64 a b Tryd.underlying3
  have e1 := fun d a b => run_equalIn_int (P := Tryd.prog) w d 2 .i64 .i64 a b Tryd.underlying2
  simp (decide := true) only [Op.eqFields, Sem.run_ite, Sem.run_bind, Sem.run_pure, part, Tryd.isAgg3, Tryd.isAgg2, Result.andThen_ok, if_false, if_true, show (#[.int .i64 x1, .int .i64 x2, .int .i64 x3] : Array Value)[0]? = some (.int .i64 x1) from rfl, show (#[.int .i64 x1, .int .i64 x2, .int .i64 x3] : Array Value)[1]? = some (.int .i64 x2) from rfl, show (#[.int .i64 x1, .int .i64 x2, .int .i64 x3] : Array Value)[2]? = some (.int .i64 x3) from rfl, show (#[.int .i64 y1, .int .i64 y2, .int .i64 y3] : Array Value)[0]? = some (.int .i64 y1) from rfl, show (#[.int .i64 y1, .int .i64 y2, .int .i64 y3] : Array Value)[1]? = some (.int .i64 y2) from rfl, show (#[.int .i64 y1, .int .i64 y2, .int .i64 y3] : Array Value)[2]? = some (.int .i64 y3) from rfl, e0 9998, e1 9998]
  cases (x1 == y1) <;> cases (x2 == y2) <;> cases (x3 == y3) <;> rfl
theorem neq_Rt (x1 y1 : Int) (x2 y2 : Int) (x3 y3 : Int) : ∀ w, (binOp .neq 76 (.agg #[.int .i64 x1, .int .i64 x2, .int .i64 x3]) (.agg #[.int .i64 y1, .int .i64 y2, .int .i64 y3])).run Tryd.prog w = .ok (.bool (!sameRt x1 y1 x2 y2 x3 y3)) w := fun w => by
  rw [run_neq_struct, equal_Rt]; rfl
theorem eql_Rt (x1 y1 : Int) (x2 y2 : Int) (x3 y3 : Int) : ∀ w, (binOp .eql 76 (.agg #[.int .i64 x1, .int .i64 x2, .int .i64 x3]) (.agg #[.int .i64 y1, .int .i64 y2, .int .i64 y3])).run Tryd.prog w = .ok (.bool (sameRt x1 y1 x2 y2 x3 y3)) w := fun w => by
  rw [run_eql_struct, equal_Rt]; rfl
theorem guard_Rt : Tryd.prog.eqGuardType Tryd.prog.depth 76 = false := by kernel_rfl
end Go.Proofs.YtdidengokijcjaaDoor.StW
