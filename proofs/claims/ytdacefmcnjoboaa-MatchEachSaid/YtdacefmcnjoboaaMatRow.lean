/-
  alluviumref07.Row, Select; match.Not; alluviumlaw06.Few, alluviumlaw07.Few: THE WALKS.
-/
import Derived.Test.YtdacefmcnjoboaaMatSel2
import Derived.Test.YtdacefmcnjoboaaMatSam2
namespace Go.Proofs.Ytdacefmcnjoboaa.LabW
open Go.RowKit Go.Shelf LabM
theorem N_cells {w : World} {A : Option Addr} {l : List Nat} (h : Lies w w.heap.size 1 encN A l) {k : Nat} (hk : k < l.length) :
    ∃ b o, A = some ⟨b, o, none⟩ ∧ ∀ W, Below w.heap.size w W → W.cell? ⟨b, o + k, none⟩ = some (.int .i64 (l[k] : Int)) := by
  obtain ⟨b, o, hA, _, hc⟩ := h.all hk
  exact ⟨b, o, hA, fun W hW => by have := hc W hW 0 _ rfl; simpa using this⟩
set_option maxRecDepth 20000 in
set_option maxHeartbeats 2000000 in
theorem row_any (A : Option Addr) (n c : Nat) (l : List Nat) (A2 : Option Addr) (n2 c2 : Nat) (l2 : List Nat) (w : World) (hl : Comes w 1 encN (fun _ => True) A n c l) (hl2 : Comes w 1 encN (fun _ => True) A2 n2 c2 l2) :
    Calls Try.prog 19 #[.slice A n c, .slice A2 n2 c2] w fun e w' => e = .returned (.bool (decide (l = l2))) ∧ Below w.heap.size w w' := by
  have HL := Lib.hid hl
  have HL2 := Lib.hid hl2
  have hcap : c ≤ 9223372036854775807 := hl.cap
  have hle := hl.le
  have hcap2 : c2 ≤ 9223372036854775807 := hl2.cap
  have hle2 := hl2.le
  clear hl hl2
  by_cases hnn : n = n2
  · subst hnn
    go_enter Try.func19, Try.ntmps19
    go_wp2_with fail
    go_loopw [5] (fun v5 wr => ∃ k : Nat, k ≤ n ∧ v5 = .int .i64 k ∧ l.take k = l2.take k ∧ Below w.heap.size w wr) (fun v5 _ => n - (intOf v5).toNat)
    case atStart => exact ⟨0, Nat.zero_le _, rfl, rfl, Below.refl _ _⟩
    case round =>
      obtain ⟨k, hk, rfl, ht, ho⟩ := hrel
      have hln := HL.out.len
      have hln2 := HL2.out.len
      by_cases hlt : k < n
      · have hkl : k < l.length := by omega
        have hkl2 : k < l2.length := by omega
        obtain ⟨b, o, rfl, hcs⟩ := N_cells HL.out.lies hkl
        obtain ⟨b2, o2, rfl, hcs2⟩ := N_cells HL2.out.lies hkl2
        have hc0 := hcs _ ho
        have hd0 := hcs2 _ ho
        have hs1 := take_snocL l k hkl
        have hs2 := take_snocL l2 k hkl2
        generalize l[k] = x at *
        generalize l2[k] = y at *
        have HO := Lib.hid ho
        have HT := Lib.hid ht
        rw [← ht] at hs2
        have HS := Lib.hid (And.intro hs1 hs2)
        clear hs1 hs2
        have i0 : (0 : Int) ≤ (k : Int) := by omega
        have i1 : (k : Int) < (n : Int) := by omega
        clear ho hln hcs hcs2 hln2
        by_cases hxy : x = y
        · subst hxy
          clear ht
          go_wp2_with fail
          go_quiet (fail)
          go_wp2_with fail
          go_roundw
          case rel => exact ⟨k + 1, by omega, by go_num, by rw [HS.out.1, HS.out.2, HT.out], HO.out.trans ⟨rfl, rfl, rfl, Nat.le_refl _, fun _ _ => rfl⟩⟩
          case measure => simp [intOf]; omega
        · have hno : l ≠ l2 := by
            intro e
            have h1 := HS.out.1; have h2 := HS.out.2
            rw [e] at h1
            rw [h1, ht] at h2
            have := List.append_cancel_left h2
            simp at this
            exact hxy this
          have HX := Lib.hid hno
          have hni : ¬ ((x : Int) = (y : Int)) := by omega
          have hne : ((x : Int) != (y : Int)) = true := by simpa using hni
          clear hxy hno ht hni
          go_wp2_with fail
          go_quiet (fail)
          go_wp2_with fail
          go_ret
          exact ⟨by rw [decide_eq_false HX.out]; rfl, HO.out.trans ⟨rfl, rfl, rfl, Nat.le_refl _, fun _ _ => rfl⟩⟩
      · obtain rfl : k = n := by omega
        rw [List.take_of_length_le (by omega), List.take_of_length_le (by omega)] at ht
        have HO := Lib.hid (And.intro ho ht)
        clear ho ht hln hln2
        go_wp2_with fail
        go_ret
        exact ⟨by rw [decide_eq_true HO.out.2]; rfl, HO.out.1⟩
  · have hno : l ≠ l2 := by
      intro e; apply hnn; rw [← HL.out.len, ← HL2.out.len, e]
    have HX := Lib.hid hno
    have hni : ¬ ((n : Int) = (n2 : Int)) := by omega
    have hne2 : ((n : Int) != (n2 : Int)) = true := by simpa using hni
    clear hni
    clear hno hnn
    go_enter Try.func19, Try.ntmps19
    go_wp2_with fail
    go_ret
    exact ⟨by rw [decide_eq_false HX.out]; rfl, Below.refl _ _⟩
theorem range_filter_snoc (p : Nat → Bool) (k : Nat) : (List.range (k + 1)).filter p = (List.range k).filter p ++ if p k then [k] else [] := by
  rw [List.range_succ, List.filter_append]
  congr 1
  cases h : p k <;> simp [h]
def fitAt (ms : List Mat) (ls : List Hdr) (i : Nat) : Bool := match ls[i]? with | some x => allB ms x.2 | none => false
theorem places_def (ms : List Mat) (ls : List Hdr) : places ms ls = (List.range ls.length).filter (fitAt ms ls) := rfl
set_option maxHeartbeats 2000000 in
theorem rselect_any (A1 : Option Addr) (n1 c1 : Nat) (ms : List Mat) (A : Option Addr) (n c : Nat) (ls : List Hdr) (w : World) (hms : Comes w 3 encM okM A1 n1 c1 ms) (hl : Comes w 1 encH (fun _ => True) A n c ls) (hs : ∀ x ∈ ls, okH w x) (hn : n ≤ 1000000) :
    Calls Try.prog 21 #[.slice A1 n1 c1, .slice A n c] w fun e w' => ∃ v, e = .returned v ∧ w'.ownsRow w.heap.size 3 1 v (places ms ls).length ((places ms ls).flatMap encN) ∧ Below w.heap.size w w' := by
  have HM := Lib.hid hms
  have HL := Lib.hid hl
  have HS := Lib.hid hs
  have hcap : c ≤ 9223372036854775807 := hl.cap
  have hle := hl.le
  clear hms hl hs
  rw [places_def]
  go_enter Try.func21, Try.ntmps21
  go_wp2_with fail
  go_loopw [5, 6] (fun v5 v6 wr => ∃ k : Nat, k ≤ n ∧ v6 = .int .i64 k ∧ wr.ownsRow w.heap.size 3 1 v5 ((List.range k).filter (fitAt ms ls)).length (((List.range k).filter (fitAt ms ls)).flatMap encN) ∧ Below w.heap.size w wr) (fun _ v6 _ => n - (intOf v6).toNat)
  case atStart => exact ⟨0, Nat.zero_le _, rfl, World.ownsRow_nil _ _ _ _, Below.refl _ _⟩
  case round =>
    obtain ⟨k, hk, rfl, hown, ho⟩ := hrel
    have hln := HL.out.len
    by_cases hlt : k < n
    · have hkl : k < ls.length := by omega
      obtain ⟨b, o, rfl, hcs⟩ := H_cells HL.out.lies hkl
      have hc0 := hcs _ ho
      have htf := range_filter_snoc (fitAt ms ls) k
      have hq : ((List.range k).filter (fitAt ms ls)).length ≤ k := by
        have h1 := List.length_filter_le (fitAt ms ls) (List.range k)
        rw [List.length_range] at h1
        exact h1
      have hx := HS.out _ (List.getElem_mem hkl)
      have hfa : fitAt ms ls k = allB ms ls[k].2 := by unfold fitAt; rw [List.getElem?_eq_getElem hkl]
      rw [hfa] at htf
      generalize ls[k] = x at *
      obtain ⟨⟨Ax, nx, cx⟩, lx⟩ := x
      simp only [] at hc0 htf
      generalize (List.range k).filter (fitAt ms ls) = F at *
      obtain ⟨q, hqq⟩ : ∃ q, F.length = q := ⟨_, rfl⟩
      rw [hqq] at hown hq
      have HO := Lib.hid ho
      have HF := Lib.hid (And.intro htf hqq)
      have HW := Lib.hid hown
      have HX := Lib.hid hx
      have i0 : (0 : Int) ≤ (k : Int) := by omega
      have i1 : (k : Int) < (n : Int) := by omega
      clear ho hln hcs htf hqq hown hfa hx
      go_wp2_with fail
      refine (rall_any A1 n1 c1 ms Ax nx cx lx wr (HM.out.later HO.out) (HX.out.1.later HO.out) HX.out.2).mono ?_
      rintro e w1 ⟨rfl, hb1⟩
      have HO2 := Lib.hid (later HO.out hb1)
      have hown1 := own_later HW.out hb1
      clear hb1
      cases hfit : allB ms lx
      · rw [hfit, if_neg (by decide), List.append_nil] at HF
        clear hfit
        go_wp2_with fail
        go_roundw
        case rel => exact ⟨k + 1, by omega, by go_num, by rw [HF.out.1, HF.out.2]; exact hown1, HO2.out⟩
        case measure => simp [intOf]; omega
      · rw [hfit, if_pos rfl] at HF
        clear hfit
        go_wp2_with (at_builtin; go_must (refine wpList_append_one rfl _ _ 35 rfl w.heap.size 3 (.int .i64 0) 1 8 Try.underlying35 elemI rfl (by decide) w1 hown1 rfl _ rfl rfl (one1 rfl) (by omega) (by omega) HO2.out.size ?_); intro v' w' hown' hb' hz')
        clear hown1
        go_roundw
        case rel =>
          refine ⟨k + 1, by omega, by go_num, ?_, HO2.out.trans hb'⟩
          rw [HF.out.1, List.length_append, HF.out.2, List.flatMap_append, List.flatMap_singleton]
          exact hown'
        case measure => simp [intOf]; omega
    · obtain rfl : k = n := by omega
      have HO := Lib.hid ho
      have HW := Lib.hid hown
      have HN := Lib.hid hln
      clear ho hown hln
      go_wp2_with fail
      go_ret
      rw [HN.out]
      exact ⟨_, rfl, HW.out, HO.out⟩
/-- The matcher of all that one does not fit. -/
def notM (m : Mat) : Mat := if m.1 = 0 then (1, m.2) else if m.1 = 1 then (0, m.2) else m
def notB (m : Mat) : Bool := decide (m.1 = 0) || decide (m.1 = 1)
theorem not_any (m : Mat) (w : World) :
    Calls Try.prog 28 #[.agg #[.int .i64 m.1, .string m.2.1, .string m.2.2]] w fun e w' => e = .returned (.tuple #[.agg #[.int .i64 (notM m).1, .string (notM m).2.1, .string (notM m).2.2], .bool (notB m)]) ∧ Below w.heap.size w w' := by
  obtain ⟨kd, nm, vl⟩ := m
  by_cases k0 : kd = 0
  · subst k0
    go_enter Try.func28, Try.ntmps28
    go_wp2_with fail
    exact bodyPost_ret (v := .tuple #[.agg #[.int .i64 1, .string nm, .string vl], .bool true]) (by simp [results, Try.results28, go_sem]) rfl ⟨rfl, ((Below.refl _ _).alloc (Nat.le_refl _) _).alloc (by simp) _⟩
  · by_cases k1 : kd = 1
    · subst k1
      clear k0
      go_enter Try.func28, Try.ntmps28
      go_wp2_with fail
      exact bodyPost_ret (v := .tuple #[.agg #[.int .i64 0, .string nm, .string vl], .bool true]) (by simp [results, Try.results28, go_sem]) rfl ⟨rfl, ((Below.refl _ _).alloc (Nat.le_refl _) _).alloc (by simp) _⟩
    · have e1 : notM (kd, nm, vl) = (kd, nm, vl) := by unfold notM; rw [if_neg k0, if_neg k1]
      have e2 : notB (kd, nm, vl) = false := by unfold notB; rw [decide_eq_false k0, decide_eq_false k1]; rfl
      rw [e1, e2]
      have b0 : (kd != 0) = true := by simpa using k0
      have b1 : (kd != 1) = true := by simpa using k1
      clear e1 e2 k0 k1
      go_enter Try.func28, Try.ntmps28
      go_wp2_with fail
      exact bodyPost_ret (v := .tuple #[.agg #[.int .i64 kd, .string nm, .string vl], .bool false]) (by simp [results, Try.results28, go_sem]) rfl ⟨rfl, ((Below.refl _ _).alloc (Nat.le_refl _) _).alloc (by simp) _⟩
def shortL (x : Lab) : Bool := decide (x.1.size ≤ 300) && decide (x.2.size ≤ 300)
def fewL (l : List Lab) : Bool := l.all shortL && decide (l.length ≤ 10)
theorem fewL_no {l : List Lab} (h : fewL l = false → False) : fewL l = true := by
  cases e : fewL l with
  | true => rfl
  | false => exact absurd e h
set_option maxHeartbeats 2000000 in
theorem fewL_any (A : Option Addr) (n c : Nat) (l : List Lab) (w : World) (hl : Comes w 2 encL okL A n c l) :
    Calls Try.prog 13 #[.slice A n c] w fun e w' => e = .returned (.bool (fewL l)) ∧ w = w' := by
  have HL := Lib.hid hl
  have hcap : c ≤ 9223372036854775807 := hl.cap
  have hle := hl.le
  clear hl
  go_enter Try.func13, Try.ntmps13
  go_wp2_with fail
  go_loop [3] (fun v3 => ∃ k : Nat, k ≤ n ∧ k ≤ 11 ∧ v3 = .int .i64 k ∧ (l.take k).all shortL = true) (fun v3 => n - (intOf v3).toNat)
  case atStart => exact ⟨0, Nat.zero_le _, Nat.zero_le _, rfl, rfl⟩
  case round =>
    obtain ⟨k, hk, hk11, rfl, hall⟩ := hrel
    have hln := HL.out.len
    by_cases hlt : k < n
    · by_cases h10 : k ≤ 10
      · have hkl : k < l.length := by omega
        obtain ⟨b, o, rfl, hcs⟩ := lab_cells HL.out.lies hkl
        obtain ⟨hc0, hc1⟩ := hcs _ (Below.refl _ _)
        have hsn := take_snocL l k hkl
        have hmem := List.getElem_mem hkl
        have hok := HL.out.ok _ hmem
        generalize l[k] = x at *
        obtain ⟨x1, x2⟩ := x
        simp only [] at hc0 hc1
        have HS := Lib.hid (And.intro hsn (And.intro hall hmem))
        have i0 : (0 : Int) ≤ (k : Int) := by omega
        have i1 : (k : Int) < (n : Int) := by omega
        have i2 : (k : Int) ≤ 10 := by omega
        have ok1 : x1.size ≤ 9223372036854775807 := hok.1
        have ok2 : x2.size ≤ 9223372036854775807 := hok.2
        clear hln hcs hsn hall hmem hok
        by_cases l1 : 300 < x1.size
        · have hno : fewL l = false := by
            unfold fewL
            rw [List.all_eq_false.2 ⟨_, HS.out.2.2, by rw [show shortL ⟨x1, x2⟩ = (decide (x1.size ≤ 300) && decide (x2.size ≤ 300)) from rfl, decide_eq_false (by omega)]; simp⟩]; rfl
          have HN := Lib.hid hno
          clear hno
          go_wp2_with fail
          go_ret
          exact ⟨by rw [HN.out]; rfl, rfl⟩
        · by_cases l2 : 300 < x2.size
          · have hno : fewL l = false := by
              unfold fewL
              rw [List.all_eq_false.2 ⟨_, HS.out.2.2, by rw [show shortL ⟨x1, x2⟩ = (decide (x1.size ≤ 300) && decide (x2.size ≤ 300)) from rfl, decide_eq_false (p := x2.size ≤ 300) (by omega)]; simp⟩]; rfl
            have HN := Lib.hid hno
            clear hno
            go_wp2_with fail
            go_ret
            exact ⟨by rw [HN.out]; rfl, rfl⟩
          · have hys : shortL ⟨x1, x2⟩ = true := by rw [show shortL ⟨x1, x2⟩ = (decide (x1.size ≤ 300) && decide (x2.size ≤ 300)) from rfl, decide_eq_true (by omega), decide_eq_true (by omega)]; rfl
            have HY := Lib.hid hys
            clear hys
            go_wp2_with fail
            go_round
            case rel => exact ⟨k + 1, by omega, by omega, by go_num, by rw [HS.out.1, List.all_append, HS.out.2.1, Bool.true_and, List.all_cons, List.all_nil, Bool.and_true, HY.out]⟩
            case measure => simp [intOf]; omega
      · have hno : fewL l = false := by unfold fewL; rw [decide_eq_false (by omega)]; simp
        have HN := Lib.hid hno
        have h11 : ¬ ((k : Int) ≤ 10) := by omega
        have hn10 : ¬ ((n : Int) ≤ 10) := by omega
        clear hno hall hln
        go_wp2_with fail
        go_ret
        refine ⟨?_, rfl⟩
        rw [HN.out, show false = decide ((n : Int) ≤ 10) from (decide_eq_false (show ¬ (n : Int) ≤ 10 by omega)).symm]
        rfl
    · obtain rfl : k = n := by omega
      rw [List.take_of_length_le (by omega)] at hall
      have hv : fewL l = decide ((k : Int) ≤ 10) := by unfold fewL; rw [hall, Bool.true_and, decide_eq_decide]; omega
      have HV := Lib.hid hv
      clear hall hv hln
      go_wp2_with fail
      go_ret
      exact ⟨by rw [HV.out]; rfl, rfl⟩
def shortM (x : Mat) : Bool := decide (x.2.1.size ≤ 300) && decide (x.2.2.size ≤ 300)
def fewM (l : List Mat) : Bool := l.all shortM && decide (l.length ≤ 10)
theorem fewM_no {l : List Mat} (h : fewM l = false → False) : fewM l = true := by
  cases e : fewM l with
  | true => rfl
  | false => exact absurd e h
set_option maxHeartbeats 2000000 in
theorem fewM_any (A : Option Addr) (n c : Nat) (l : List Mat) (w : World) (hl : Comes w 3 encM okM A n c l) :
    Calls Try.prog 11 #[.slice A n c] w fun e w' => e = .returned (.bool (fewM l)) ∧ w = w' := by
  have HL := Lib.hid hl
  have hcap : c ≤ 9223372036854775807 := hl.cap
  have hle := hl.le
  clear hl
  go_enter Try.func11, Try.ntmps11
  go_wp2_with fail
  go_loop [3] (fun v3 => ∃ k : Nat, k ≤ n ∧ k ≤ 11 ∧ v3 = .int .i64 k ∧ (l.take k).all shortM = true) (fun v3 => n - (intOf v3).toNat)
  case atStart => exact ⟨0, Nat.zero_le _, Nat.zero_le _, rfl, rfl⟩
  case round =>
    obtain ⟨k, hk, hk11, rfl, hall⟩ := hrel
    have hln := HL.out.len
    by_cases hlt : k < n
    · by_cases h10 : k ≤ 10
      · have hkl : k < l.length := by omega
        obtain ⟨b, o, rfl, hcs⟩ := M_cells HL.out.lies hkl
        obtain ⟨hc0, hc1, hc2⟩ := hcs _ (Below.refl _ _)
        have hsn := take_snocL l k hkl
        have hmem := List.getElem_mem hkl
        have hok := HL.out.ok _ hmem
        generalize l[k] = x at *
        obtain ⟨x0, x1, x2⟩ := x
        simp only [] at hc0 hc1 hc2
        have HS := Lib.hid (And.intro hsn (And.intro hall hmem))
        have i0 : (0 : Int) ≤ (k : Int) := by omega
        have i1 : (k : Int) < (n : Int) := by omega
        have i2 : (k : Int) ≤ 10 := by omega
        have ok1 : x1.size ≤ 9223372036854775807 := hok.2.2.1
        have ok2 : x2.size ≤ 9223372036854775807 := hok.2.2.2
        clear hln hcs hsn hall hmem hok
        by_cases l1 : 300 < x1.size
        · have hno : fewM l = false := by
            unfold fewM
            rw [List.all_eq_false.2 ⟨_, HS.out.2.2, by rw [show shortM ⟨x0, x1, x2⟩ = (decide (x1.size ≤ 300) && decide (x2.size ≤ 300)) from rfl, decide_eq_false (by omega)]; simp⟩]; rfl
          have HN := Lib.hid hno
          clear hno
          go_wp2_with fail
          go_ret
          exact ⟨by rw [HN.out]; rfl, rfl⟩
        · by_cases l2 : 300 < x2.size
          · have hno : fewM l = false := by
              unfold fewM
              rw [List.all_eq_false.2 ⟨_, HS.out.2.2, by rw [show shortM ⟨x0, x1, x2⟩ = (decide (x1.size ≤ 300) && decide (x2.size ≤ 300)) from rfl, decide_eq_false (p := x2.size ≤ 300) (by omega)]; simp⟩]; rfl
            have HN := Lib.hid hno
            clear hno
            go_wp2_with fail
            go_ret
            exact ⟨by rw [HN.out]; rfl, rfl⟩
          · have hys : shortM ⟨x0, x1, x2⟩ = true := by rw [show shortM ⟨x0, x1, x2⟩ = (decide (x1.size ≤ 300) && decide (x2.size ≤ 300)) from rfl, decide_eq_true (by omega), decide_eq_true (by omega)]; rfl
            have HY := Lib.hid hys
            clear hys
            go_wp2_with fail
            go_round
            case rel => exact ⟨k + 1, by omega, by omega, by go_num, by rw [HS.out.1, List.all_append, HS.out.2.1, Bool.true_and, List.all_cons, List.all_nil, Bool.and_true, HY.out]⟩
            case measure => simp [intOf]; omega
      · have hno : fewM l = false := by unfold fewM; rw [decide_eq_false (by omega)]; simp
        have HN := Lib.hid hno
        have h11 : ¬ ((k : Int) ≤ 10) := by omega
        have hn10 : ¬ ((n : Int) ≤ 10) := by omega
        clear hno hall hln
        go_wp2_with fail
        go_ret
        refine ⟨?_, rfl⟩
        rw [HN.out, show false = decide ((n : Int) ≤ 10) from (decide_eq_false (show ¬ (n : Int) ≤ 10 by omega)).symm]
        rfl
    · obtain rfl : k = n := by omega
      rw [List.take_of_length_le (by omega)] at hall
      have hv : fewM l = decide ((k : Int) ≤ 10) := by unfold fewM; rw [hall, Bool.true_and, decide_eq_decide]; omega
      have HV := Lib.hid hv
      clear hall hv hln
      go_wp2_with fail
      go_ret
      exact ⟨by rw [HV.out]; rfl, rfl⟩
end Go.Proofs.Ytdacefmcnjoboaa.LabW
