/-
  TIMES AS BITS: Put, Cost, WALKED.
-/
import Derived.Test.YtdnipfkpfdglnaaStWalk
import Derived.Test.YtdnipfkpfdglnaaStMem
namespace Go.Proofs.Ytdnipfkpfdglnaa.StW
set_option linter.unusedVariables false
open Go.RowKit Go.Shelf BitsM BitsW StM
def StObj (s : St) : Obj := .cells #[.int .i64 s.1, .int .i64 s.2.1, .int .i64 s.2.2] 23 (0, 0)
theorem info_st : (Try.prog.info? 23).map (·.size) = some 3 := by kernel_rfl
def StAt (W : World) (g : Nat) (s : St) : Prop := W.heap[g]? = some (StObj s)
theorem StAt.c0 {W : World} {g : Nat} {s : St} (h : StAt W g s) : W.cell? ⟨g, 0, none⟩ = some (.int .i64 s.1) := by rw [cell_of_row W _ _ _ _ _ h]; rfl
theorem StAt.c1 {W : World} {g : Nat} {s : St} (h : StAt W g s) : W.cell? ⟨g, 1, none⟩ = some (.int .i64 s.2.1) := by rw [cell_of_row W _ _ _ _ _ h]; rfl
theorem StAt.c2 {W : World} {g : Nat} {s : St} (h : StAt W g s) : W.cell? ⟨g, 2, none⟩ = some (.int .i64 s.2.2) := by rw [cell_of_row W _ _ _ _ _ h]; rfl
theorem wrapu_eq (x : Int) : IntKind.u64.wrap x = ((u64 x : Nat) : Int) := by
  rw [u64_cast]; simp [IntKind.wrap, IntKind.bits, IntKind.signed]
theorem box_zero (w : World) (s : St) : (w.alloc (StObj s)).heap.size = w.heap.size + 1 := by simp
set_option maxHeartbeats 2000000 in
theorem put_first (bw : Nat) (rb0 : Option Nat) (b0 : List Bool) (s : St) (t : Int) (w : World) (hw : WriterAt w bw rb0 b0) (hb : b0.length + 200 ≤ 1099511627776) (h0 : s.1 = 0) :
    Calls Try.prog 12 #[.pointer (some ⟨bw, 0, none⟩), .agg #[.int .i64 s.1, .int .i64 s.2.1, .int .i64 s.2.2], .int .i64 t] w fun e w' => e = .returned (.agg #[.int .i64 (aftS s t).1, .int .i64 (aftS s t).2.1, .int .i64 (aftS s t).2.2]) ∧ Wrote w bw rb0 (b0 ++ putS s t) w' := by
  obtain ⟨N, T, D⟩ := s
  obtain rfl : N = 0 := h0
  have HP := Lib.hid (((PM.start hw).alloc (StObj (0, T, D))).alloc (StObj (0, 0, 0)))
  clear hw
  have hv := wrapu_eq t
  have e1 : putS (0, T, D) t = msb (u64 t) 64 := rfl
  have e2 : aftS (0, T, D) t = (1, t, 0) := rfl
  rw [e1, e2]
  have HA := Lib.hid (after_any (0, T, D) t)
  go_enter Try.func12, Try.ntmps12
  go_wp2_with fail
  refine (HP.out.put (by omega) ((u64 t : Nat) : Int) 64 (by omega) (by have := u64_lt t; omega)).mono ?_
  rintro e w1 ⟨rfl, p1⟩
  rw [Int.toNat_natCast, show within 64 = 64 from rfl] at p1
  have hbox : StAt w1 w.heap.size (0, T, D) := p1.at_ (by simp)
  have c0 := hbox.c0
  have c1 := hbox.c1
  have c2 := hbox.c2
  have HP1 := Lib.hid p1
  clear p1 hbox HP hv
  go_wp2_with fail
  refine (HA.out _).mono ?_
  rintro e w2 ⟨rfl, hb2⟩
  have HP2 := Lib.hid (HP1.out.below hb2)
  clear hb2 HP1 c0 c1 c2
  have hres : StAt w2 (w.heap.size + 1) (0, 0, 0) := HP2.out.at_ (by rw [box_zero]; simp)
  go_wp2_with (refine wpList_store_row rfl 23 _ _ rfl (w.heap.size + 1) #[.int .i64 1, .int .i64 t, .int .i64 0] rfl rfl 23 _ hres info_st rfl (by simp [Value.oneCell']) ?_)
  have hr2 : (w2.setRow (w.heap.size + 1) #[.int .i64 1, .int .i64 t, .int .i64 0]).heap[w.heap.size + 1]? = some (.cells #[.int .i64 1, .int .i64 t, .int .i64 0] 23 (0, 0)) := setRow_heap w2 _ _ _ _ _ hres
  exact bodyPost_ret (v := .agg #[.int .i64 1, .int .i64 t, .int .i64 0]) (results_cell_row (Try.results12) _ _ (w.heap.size + 1) 23 _ (0, 0) _ rfl hr2 Try.underlying23 rfl info_st) rfl ⟨rfl, (HP2.out.setRow (o := StObj (0, 0, 0)) (by rw [box_zero]; simp) _).wrote⟩
set_option maxHeartbeats 4000000 in
theorem put_more (bw : Nat) (rb0 : Option Nat) (b0 : List Bool) (s : St) (t : Int) (w : World) (hw : WriterAt w bw rb0 b0) (hb : b0.length + 200 ≤ 1099511627776) (h0 : ¬ s.1 = 0) :
    Calls Try.prog 12 #[.pointer (some ⟨bw, 0, none⟩), .agg #[.int .i64 s.1, .int .i64 s.2.1, .int .i64 s.2.2], .int .i64 t] w fun e w' => e = .returned (.agg #[.int .i64 (aftS s t).1, .int .i64 (aftS s t).2.1, .int .i64 (aftS s t).2.2]) ∧ Wrote w bw rb0 (b0 ++ putS s t) w' := by
  have HP := Lib.hid (((PM.start hw).alloc (StObj s)).alloc (StObj (0, 0, 0)))
  have hb0 : (s.1 == 0) = false := by simpa using h0
  have e1 : putS s t = codeC (chg s t) := by unfold putS; rw [if_neg h0]
  rw [e1]
  clear e1 hw h0
  have HA := Lib.hid (after_any s t)
  have HCH := Lib.hid (change_any s t)
  obtain ⟨c, hc⟩ : ∃ c, chg s t = c := ⟨_, rfl⟩
  obtain ⟨s', hs'⟩ : ∃ s', aftS s t = s' := ⟨_, rfl⟩
  rw [hc] at HCH
  rw [hs'] at HA
  rw [hc, hs']
  clear hc hs'
  obtain ⟨x, y, z⟩ := s'
  obtain ⟨N, T, D⟩ := s
  simp only [] at hb0 HA HCH ⊢
  go_enter Try.func12, Try.ntmps12
  go_wp2_with fail
  refine (HCH.out _).mono ?_
  rintro e w1 ⟨rfl, hb1⟩
  have HP1 := Lib.hid (HP.out.below hb1)
  clear HP hb1
  go_wp2_with fail
  have HOF := Lib.hid (of_any c)
  obtain ⟨k, hk⟩ : ∃ k, cls c = k := ⟨_, rfl⟩
  have hk4 := cls_le c
  have hcode : codeC c = headC k ++ msb (u64 (c - lowC k)) (sizeC k) := by rw [← hk]; rfl
  rw [hk] at HOF hk4
  have HCD := Lib.hid hcode
  clear hcode hk
  refine (HOF.out _).mono ?_
  rintro e w2 ⟨rfl, hb2⟩
  have HP2 := Lib.hid (HP1.out.below hb2)
  clear HP1 hb2 HOF
  go_wp2_with fail
  refine (classes_any _).mono ?_
  rintro e w3 ⟨rfl, hb3⟩
  have HP3 := Lib.hid (HP2.out.below hb3)
  clear HP2 hb3
  obtain ⟨cs, hcs⟩ : ∃ cs, clsCells = cs := ⟨_, rfl⟩
  rw [hcs]
  have hinf : (Try.prog.info? 65).map (·.size) = some cs.size := by rw [← hcs]; exact info_cls
  have HI := Lib.hid (show 12 = cs.size ∧ cs.all (·.oneCell') = true by rw [← hcs]; exact ⟨rfl, by kernel_rfl⟩)
  have HS := Lib.hid hcs
  clear hcs
  by_cases k4 : k = 4
  · subst k4
    have hv := wrapu_eq c
    go_wp2_with (refine wpList_store_fresh rfl 65 _ _ rfl cs rfl rfl 65 _ hinf HI.out.1 HI.out.2 ?_; intro w4 hb4 hc4 hz4; clear hinf)
    have HP4 := Lib.hid (HP3.out.new hb4 hc4)
    have HC4 := Lib.hid (show ClsAt w4 w3.heap.size by unfold ClsAt; rw [HS.out]; exact hc4)
    clear hb4 hc4 hz4 HP3
    generalize hg : w3.heap.size = g at *
    refine (HP4.out.put (by omega) 15 4 (by omega) (by omega)).mono ?_
    rintro e w5 ⟨rfl, p5⟩
    have HP5 := Lib.hid p5
    clear p5 HP4
    go_wp2_with fail
    refine (HP5.out.put (by rw [List.length_append, msb_length]; show b0.length + 4 + 64 ≤ _; omega) ((u64 c : Nat) : Int) 64 (by omega) (by have := u64_lt c; omega)).mono ?_
    rintro e w6 ⟨rfl, p6⟩
    rw [Int.toNat_natCast, List.append_assoc] at p6
    have ecode : b0 ++ (msb (Int.toNat 15) (within 4) ++ msb (u64 c) (within 64)) = b0 ++ codeC c := by
      rw [HCD.out]; rw [show c - lowC 4 = c by show c - 0 = c; omega]; rfl
    rw [ecode] at p6
    have hbox : StAt w6 w.heap.size (N, T, D) := p6.at_ (by simp)
    have c0 := hbox.c0
    have c1 := hbox.c1
    have c2 := hbox.c2
    have HP6 := Lib.hid p6
    clear p6 hbox HP5 hv ecode
    go_wp2_with fail
    refine (HA.out _).mono ?_
    rintro e w7 ⟨rfl, hb7⟩
    have HP7 := Lib.hid (HP6.out.below hb7)
    clear hb7 HP6 c0 c1 c2
    have hres : StAt w7 (w.heap.size + 1) (0, 0, 0) := HP7.out.at_ (by rw [box_zero]; simp)
    go_wp2_with (refine wpList_store_row rfl 23 _ _ rfl (w.heap.size + 1) #[.int .i64 x, .int .i64 y, .int .i64 z] rfl rfl 23 _ hres info_st rfl (by simp [Value.oneCell']) ?_)
    have hr2 : (w7.setRow (w.heap.size + 1) #[.int .i64 x, .int .i64 y, .int .i64 z]).heap[w.heap.size + 1]? = some (.cells #[.int .i64 x, .int .i64 y, .int .i64 z] 23 (0, 0)) := setRow_heap w7 _ _ _ _ _ hres
    exact bodyPost_ret (v := .agg #[.int .i64 x, .int .i64 y, .int .i64 z]) (results_cell_row (Try.results12) _ _ (w.heap.size + 1) 23 _ (0, 0) _ rfl hr2 Try.underlying23 rfl info_st) rfl ⟨rfl, (HP7.out.setRow (o := StObj (0, 0, 0)) (by rw [box_zero]; simp) _).wrote⟩
  · have k4' : k < 4 := by omega
    clear k4 hk4
    have hv := wrapu_eq (c - lowC k)
    have hv2 : IntKind.u64.wrap (wrap64 (c - lowC k)) = ((u64 (c - lowC k) : Nat) : Int) := by
      rw [wrapu_eq]; congr 1; unfold u64 wrap64; omega
    have hsh : IntKind.u64.wrap (IntKind.u64.wrap ((2 : Int) ^ (k + 1)) - 2) = ((2 ^ (k + 1) - 2 : Nat) : Int) ∧ msb (2 ^ (k + 1) - 2) (within ((k : Int) + 1)) = headC k ∧ 2 ^ (k + 1) - 2 < 100 ∧ (headC k).length ≤ 4 := by
      have : k = 0 ∨ k = 1 ∨ k = 2 ∨ k = 3 := by omega
      rcases this with rfl | rfl | rfl | rfl <;> decide
    obtain ⟨P, hP⟩ : ∃ P : Nat, 2 ^ (k + 1) - 2 = P := ⟨_, rfl⟩
    rw [hP] at hsh
    obtain ⟨hs1, hs2⟩ := hsh
    have HSH := Lib.hid hs2
    have hbk : ((k : Int) == 4) = false := by simp; omega
    clear hs2 hP
    go_wp2_with (refine wpList_store_fresh rfl 65 _ _ rfl cs rfl rfl 65 _ hinf HI.out.1 HI.out.2 ?_; intro w4 hb4 hc4 hz4; clear hinf)
    have HP4 := Lib.hid (HP3.out.new hb4 hc4)
    have HC4 := Lib.hid (show ClsAt w4 w3.heap.size by unfold ClsAt; rw [HS.out]; exact hc4)
    clear hb4 hc4 hz4 HP3
    generalize hg : w3.heap.size = g at *
    refine (HP4.out.put (by omega) (P : Int) ((k : Int) + 1) (by omega) (by have := HSH.out.2.1; omega)).mono ?_
    rintro e w5 ⟨rfl, p5⟩
    rw [Int.toNat_natCast, HSH.out.1] at p5
    have hcl : ClsAt w5 g := by
      unfold ClsAt; rw [HS.out]
      exact p5.at_ (by simp)
    have HP5 := Lib.hid p5
    have c0 := hcl.low k k4'
    have c1 := hcl.size k k4'
    clear p5 HP4 hcl hs1
    have hsz : sizeC k ≤ 64 := sizeC_le k
    have hu := u64_lt (c - lowC k)
    obtain ⟨lo, hlo⟩ : ∃ lo, lowC k = lo := ⟨_, rfl⟩
    obtain ⟨sz, hszz⟩ : ∃ sz, sizeC k = sz := ⟨_, rfl⟩
    rw [hlo] at hv hv2 c0 HCD hu
    rw [hszz] at c1 HCD hsz
    clear hlo hszz
    obtain ⟨U, hU⟩ : ∃ U, u64 (c - lo) = U := ⟨_, rfl⟩
    rw [hU] at hv hv2 HCD hu
    clear hU
    go_wp2_with fail
    have i0 : (0 : Int) ≤ (k : Int) := by omega
    have i1 : (k : Int) < 4 := by omega
    go_still_tail 12, (by kernel_rfl)
    go_wp2_with fail
    rw [hv2]
    refine (HP5.out.drew.put (by rw [List.length_append]; have := HSH.out.2.2; omega) (U : Int) (sz : Int) (by omega) (by omega)).mono ?_
    rintro e w6 ⟨rfl, p6⟩
    rw [Int.toNat_natCast, List.append_assoc, show within (sz : Int) = sz by unfold within; omega, ← HCD.out] at p6
    have hbox : StAt w6 w.heap.size (N, T, D) := p6.at_ (by simp)
    have d0 := hbox.c0
    have d1 := hbox.c1
    have d2 := hbox.c2
    have HP6 := Lib.hid p6
    clear p6 hbox HP5 hv hv2 c0 c1
    go_wp2_with fail
    refine (HA.out _).mono ?_
    rintro e w7 ⟨rfl, hb7⟩
    have HP7 := Lib.hid (HP6.out.below hb7)
    clear hb7 HP6 d0 d1 d2
    have hres : StAt w7 (w.heap.size + 1) (0, 0, 0) := HP7.out.at_ (by rw [box_zero]; simp)
    go_wp2_with (refine wpList_store_row rfl 23 _ _ rfl (w.heap.size + 1) #[.int .i64 x, .int .i64 y, .int .i64 z] rfl rfl 23 _ hres info_st rfl (by simp [Value.oneCell']) ?_)
    have hr2 : (w7.setRow (w.heap.size + 1) #[.int .i64 x, .int .i64 y, .int .i64 z]).heap[w.heap.size + 1]? = some (.cells #[.int .i64 x, .int .i64 y, .int .i64 z] 23 (0, 0)) := setRow_heap w7 _ _ _ _ _ hres
    exact bodyPost_ret (v := .agg #[.int .i64 x, .int .i64 y, .int .i64 z]) (results_cell_row (Try.results12) _ _ (w.heap.size + 1) 23 _ (0, 0) _ rfl hr2 Try.underlying23 rfl info_st) rfl ⟨rfl, (HP7.out.setRow (o := StObj (0, 0, 0)) (by rw [box_zero]; simp) _).wrote⟩
/-- A time is put. -/
theorem put_time (bw : Nat) (rb0 : Option Nat) (b0 : List Bool) (s : St) (t : Int) (w : World) (hw : WriterAt w bw rb0 b0) (hb : b0.length + 200 ≤ 1099511627776) :
    Calls Try.prog 12 #[.pointer (some ⟨bw, 0, none⟩), .agg #[.int .i64 s.1, .int .i64 s.2.1, .int .i64 s.2.2], .int .i64 t] w fun e w' => e = .returned (.agg #[.int .i64 (aftS s t).1, .int .i64 (aftS s t).2.1, .int .i64 (aftS s t).2.2]) ∧ Wrote w bw rb0 (b0 ++ putS s t) w' := by
  by_cases h0 : s.1 = 0
  · exact put_first bw rb0 b0 s t w hw hb h0
  · exact put_more bw rb0 b0 s t w hw hb h0
/-- What a time costs. -/
def costN (s : St) (t : Int) : Nat := (putS s t).length
theorem cost_four (c : Int) (h : cls c = 4) : (codeC c).length = 68 := by rw [codeC_len, h]; rfl
set_option maxHeartbeats 2000000 in
theorem cost_any (s : St) (t : Int) (w : World) :
    Calls Try.prog 18 #[.agg #[.int .i64 s.1, .int .i64 s.2.1, .int .i64 s.2.2], .int .i64 t] w fun e w' => e = .returned (.int .i64 ((putS s t).length : Nat)) ∧ Below w.heap.size w w' := by
  obtain ⟨N, T, D⟩ := s
  by_cases h0 : N = 0
  · subst h0
    have e1 : (putS (0, T, D) t).length = 64 := msb_length _ _
    rw [e1]
    go_enter Try.func18, Try.ntmps18
    go_wp2
    go_ret
    exact ⟨rfl, (Below.refl _ _).alloc (Nat.le_refl _) _⟩
  · have e1 : putS (N, T, D) t = codeC (chg (N, T, D) t) := by unfold putS; rw [if_neg h0]
    have hb0 : (N == 0) = false := by simpa using h0
    rw [e1]
    clear e1 h0
    have HCH := Lib.hid (change_any (N, T, D) t)
    obtain ⟨c, hc⟩ : ∃ c, chg (N, T, D) t = c := ⟨_, rfl⟩
    rw [hc] at HCH
    rw [hc, codeC_len]
    clear hc
    have HOF := Lib.hid (of_any c)
    obtain ⟨k, hk⟩ : ∃ k, cls c = k := ⟨_, rfl⟩
    have hk4 := cls_le c
    rw [hk] at HOF hk4 ⊢
    clear hk
    obtain ⟨q, hq⟩ : ∃ q, headLen k + sizeC k = q := ⟨_, rfl⟩
    rw [hq]
    go_enter Try.func18, Try.ntmps18
    go_wp2_with fail
    refine (classes_any _).mono ?_
    rintro e w1 ⟨rfl, hb1⟩
    obtain ⟨wA, hwA⟩ : ∃ wA, w.alloc (StObj (N, T, D)) = wA := ⟨_, rfl⟩
    have hbA : Below w.heap.size w wA := by rw [← hwA]; exact (Below.refl _ _).alloc (Nat.le_refl _) _
    have hst : StAt wA w.heap.size (N, T, D) := by rw [← hwA]; exact heap_alloc_new w _
    change Below (w.alloc (StObj (N, T, D))).heap.size (w.alloc (StObj (N, T, D))) w1 at hb1
    rw [hwA] at hb1
    obtain ⟨cs, hcs⟩ : ∃ cs, clsCells = cs := ⟨_, rfl⟩
    rw [hcs]
    have hinf : (Try.prog.info? 65).map (·.size) = some cs.size := by rw [← hcs]; exact info_cls
    have HI := Lib.hid (show 12 = cs.size ∧ cs.all (·.oneCell') = true by rw [← hcs]; exact ⟨rfl, by kernel_rfl⟩)
    have HS := Lib.hid hcs
    have HB := Lib.hid hb1
    have HST := Lib.hid hst
    have HBA := Lib.hid hbA
    clear hcs hb1 hst hbA hwA
    have HC : Hid (∀ W, Below w1.heap.size w1 W → StAt W w.heap.size (N, T, D)) := Lib.hid fun W hW => by
      have h1 := (HB.out.block _ (Array.getElem?_eq_some_iff.1 HST.out).1).trans HST.out
      exact (hW.block _ (Array.getElem?_eq_some_iff.1 h1).1).trans h1
    go_wp2_with (refine wpList_store_fresh rfl 65 _ _ rfl cs rfl rfl 65 _ hinf HI.out.1 HI.out.2 ?_; intro w4 hb4 hc4 hz4; clear hinf; have d0 := (HC.out w4 hb4).c0; have d1 := (HC.out w4 hb4).c1; have d2 := (HC.out w4 hb4).c2)
    refine (HCH.out _).mono ?_
    rintro e w5 ⟨rfl, hb5⟩
    go_wp2_with fail
    refine (HOF.out _).mono ?_
    rintro e w6 ⟨rfl, hb6⟩
    have HB6 := Lib.hid (later (later (later HBA.out HB.out) hb4) (later hb5 hb6))
    by_cases k4 : k = 4
    · subst k4
      obtain rfl : 68 = q := hq
      clear hb5 hb6 d0 d1 d2
      go_wp2
      go_ret
      exact ⟨rfl, HB6.out⟩
    · have hcl : ClsAt w6 w1.heap.size := (show ClsAt w4 w1.heap.size by unfold ClsAt; rw [HS.out]; exact hc4).later (later hb5 hb6)
      have c1 := hcl.size k (by omega)
      have hbk : ((k : Int) == 4) = false := by simp; omega
      have hsz : sizeC k ≤ 64 := sizeC_le k
      have hhl : headLen k = k + 1 := by unfold headLen; rw [if_pos (by omega)]
      rw [hhl] at hq
      generalize sizeC k = sz at *
      clear hb5 hb6 d0 d1 d2 hcl hhl hb4 hc4 hz4
      go_wp2
      go_ret
      refine ⟨?_, HB6.out⟩
      go_num
end Go.Proofs.Ytdnipfkpfdglnaa.StW
