/-
  alluviumref07.Row, Select; match.Not; alluviumlaw06.Few, alluviumlaw07.Few: THE WALKS.
  EQUALITY OF STRUCTS OF ONE-CELL FIELDS, AS RUN EQUATIONS.
  alluviumref06.Same, Longest: THE WALKS.
  HOW ARGUMENTS ARE OPENED: labels, matchers, samples, rows of labels; a matcher.
-/
import Derived.Test.YtdjgndnllaingaaJ13
import Derived.Test.YtdjgndnllaingaaJ11
import Derived.Test.YtdjgndnllaingaaRows
import Derived.Test.YtdjgndnllaingaaJ04
import Derived.Laws.StructEq
import Derived.Lib.SmallJoins
/-
  alluviumref07.Row, Select; match.Not; alluviumlaw06.Few, alluviumlaw07.Few: THE WALKS.
-/
namespace Go.Proofs.Ytdjgndnllaingaa.LabW
open Go.RowKit Go.Shelf LabM
theorem N_cells {w : World} {A : Option Addr} {l : List Nat} (h : Lies w w.heap.size 1 encN A l) {k : Nat} (hk : k < l.length) :
    ∃ b o, A = some ⟨b, o, none⟩ ∧ ∀ W, Below w.heap.size w W → W.cell? ⟨b, o + k, none⟩ = some (.int .i64 (l[k] : Int)) := by
  obtain ⟨b, o, hA, _, hc⟩ := h.all hk
  exact ⟨b, o, hA, fun W hW => by have := hc W hW 0 _ rfl; simpa using this⟩
theorem range_filter_snoc (p : Nat → Bool) (k : Nat) : (List.range (k + 1)).filter p = (List.range k).filter p ++ if p k then [k] else [] := by
  rw [List.range_succ, List.filter_append]
  congr 1
  cases h : p k <;> simp [h]
def fitAt (ms : List Mat) (ls : List Hdr) (i : Nat) : Bool := match ls[i]? with | some x => allB ms x.2 | none => false
theorem places_def (ms : List Mat) (ls : List Hdr) : places ms ls = (List.range ls.length).filter (fitAt ms ls) := rfl
/-- The matcher of all that one does not fit. -/
def notM (m : Mat) : Mat := if m.1 = 0 then (1, m.2) else if m.1 = 1 then (0, m.2) else m
def notB (m : Mat) : Bool := decide (m.1 = 0) || decide (m.1 = 1)
def shortL (x : Lab) : Bool := decide (x.1.size ≤ 300) && decide (x.2.size ≤ 300)
def fewL (l : List Lab) : Bool := l.all shortL && decide (l.length ≤ 10)
theorem fewL_no {l : List Lab} (h : fewL l = false → False) : fewL l = true := by
  cases e : fewL l with
  | true => rfl
  | false => exact absurd e h
set_option maxHeartbeats 2000000 in
theorem fewL_any (A : Option Addr) (n c : Nat) (l : List Lab) (w : World) (hl : Comes w 2 encL okL A n c l) :
    Calls Try.prog 17 #[.slice A n c] w fun e w' => e = .returned (.bool (fewL l)) ∧ w = w' := by
  have HL := Lib.hid hl
  have hcap : c ≤ 9223372036854775807 := hl.cap
  have hle := hl.le
  clear hl
  go_enter Try.func17, Try.ntmps17
  go_wp2_with fail
  go_loop [3] (fun v3 => ∃ k : Nat, k ≤ n ∧ k ≤ 11 ∧ v3 = .int .i64 k ∧ (l.take k).all shortL = true) (fun v3 => n - (intOf v3).toNat)
  case atStart => exact ⟨0, Nat.zero_le _, Nat.zero_le _, rfl, rfl⟩
  case round =>
    obtain ⟨k, hk, hk11, rfl, hall⟩ := hrel
    have hln := HL.out.len
    by_cases hlt : k < n
    · by_cases h10 : k ≤ 10
      · have hkl : k < l.length := by omega
        obtain ⟨b, o, rfl, hcs⟩ := lab_cells HL.out.lies hkl
        obtain ⟨hc0, hc1⟩ := hcs _ (Below.refl _ _)
        have hsn := take_snocL l k hkl
        have hmem := List.getElem_mem hkl
        have hok := HL.out.ok _ hmem
        generalize l[k] = x at *
        obtain ⟨x1, x2⟩ := x
        simp only [] at hc0 hc1
        have HS := Lib.hid (And.intro hsn (And.intro hall hmem))
        have i0 : (0 : Int) ≤ (k : Int) := by omega
        have i1 : (k : Int) < (n : Int) := by omega
        have i2 : (k : Int) ≤ 10 := by omega
        have ok1 : x1.size ≤ 9223372036854775807 := hok.1
        have ok2 : x2.size ≤ 9223372036854775807 := hok.2
        clear hln hcs hsn hall hmem hok
        by_cases l1 : 300 < x1.size
        · have hno : fewL l = false := by
            unfold fewL
            rw [List.all_eq_false.2 ⟨_, HS.out.2.2, by rw [show shortL ⟨x1, x2⟩ = (decide (x1.size ≤ 300) && decide (x2.size ≤ 300)) from rfl, decide_eq_false (by omega)]; simp⟩]; rfl
          have HN := Lib.hid hno
          clear hno
          go_wp2_with fail
          go_ret
          exact ⟨by rw [HN.out]; rfl, rfl⟩
        · by_cases l2 : 300 < x2.size
          · have hno : fewL l = false := by
              unfold fewL
              rw [List.all_eq_false.2 ⟨_, HS.out.2.2, by rw [show shortL ⟨x1, x2⟩ = (decide (x1.size ≤ 300) && decide (x2.size ≤ 300)) from rfl, decide_eq_false (p := x2.size ≤ 300) (by omega)]; simp⟩]; rfl
            have HN := Lib.hid hno
            clear hno
            go_wp2_with fail
            go_ret
            exact ⟨by rw [HN.out]; rfl, rfl⟩
          · have hys : shortL ⟨x1, x2⟩ = true := by rw [show shortL ⟨x1, x2⟩ = (decide (x1.size ≤ 300) && decide (x2.size ≤ 300)) from rfl, decide_eq_true (by omega), decide_eq_true (by omega)]; rfl
            have HY := Lib.hid hys
            clear hys
            go_wp2_with fail
            go_round
            case rel => exact ⟨k + 1, by omega, by omega, by go_num, by rw [HS.out.1, List.all_append, HS.out.2.1, Bool.true_and, List.all_cons, List.all_nil, Bool.and_true, HY.out]⟩
            case measure => simp [intOf]; omega
      · have hno : fewL l = false := by unfold fewL; rw [decide_eq_false (by omega)]; simp
        have HN := Lib.hid hno
        have h11 : ¬ ((k : Int) ≤ 10) := by omega
        have hn10 : ¬ ((n : Int) ≤ 10) := by omega
        clear hno hall hln
        go_wp2_with fail
        go_ret
        refine ⟨?_, rfl⟩
        rw [HN.out, show false = decide ((n : Int) ≤ 10) from (decide_eq_false (show ¬ (n : Int) ≤ 10 by omega)).symm]
        rfl
    · obtain rfl : k = n := by omega
      rw [List.take_of_length_le (by omega)] at hall
      have hv : fewL l = decide ((k : Int) ≤ 10) := by unfold fewL; rw [hall, Bool.true_and, decide_eq_decide]; omega
      have HV := Lib.hid hv
      clear hall hv hln
      go_wp2_with fail
      go_ret
      exact ⟨by rw [HV.out]; rfl, rfl⟩
def shortM (x : Mat) : Bool := decide (x.2.1.size ≤ 300) && decide (x.2.2.size ≤ 300)
def fewM (l : List Mat) : Bool := l.all shortM && decide (l.length ≤ 10)
theorem fewM_no {l : List Mat} (h : fewM l = false → False) : fewM l = true := by
  cases e : fewM l with
  | true => rfl
  | false => exact absurd e h
set_option maxHeartbeats 2000000 in
theorem fewM_any (A : Option Addr) (n c : Nat) (l : List Mat) (w : World) (hl : Comes w 3 encM okM A n c l) :
    Calls Try.prog 15 #[.slice A n c] w fun e w' => e = .returned (.bool (fewM l)) ∧ w = w' := by
  have HL := Lib.hid hl
  have hcap : c ≤ 9223372036854775807 := hl.cap
  have hle := hl.le
  clear hl
  go_enter Try.func15, Try.ntmps15
  go_wp2_with fail
  go_loop [3] (fun v3 => ∃ k : Nat, k ≤ n ∧ k ≤ 11 ∧ v3 = .int .i64 k ∧ (l.take k).all shortM = true) (fun v3 => n - (intOf v3).toNat)
  case atStart => exact ⟨0, Nat.zero_le _, Nat.zero_le _, rfl, rfl⟩
  case round =>
    obtain ⟨k, hk, hk11, rfl, hall⟩ := hrel
    have hln := HL.out.len
    by_cases hlt : k < n
    · by_cases h10 : k ≤ 10
      · have hkl : k < l.length := by omega
        obtain ⟨b, o, rfl, hcs⟩ := M_cells HL.out.lies hkl
        obtain ⟨hc0, hc1, hc2⟩ := hcs _ (Below.refl _ _)
        have hsn := take_snocL l k hkl
        have hmem := List.getElem_mem hkl
        have hok := HL.out.ok _ hmem
        generalize l[k] = x at *
        obtain ⟨x0, x1, x2⟩ := x
        simp only [] at hc0 hc1 hc2
        have HS := Lib.hid (And.intro hsn (And.intro hall hmem))
        have i0 : (0 : Int) ≤ (k : Int) := by omega
        have i1 : (k : Int) < (n : Int) := by omega
        have i2 : (k : Int) ≤ 10 := by omega
        have ok1 : x1.size ≤ 9223372036854775807 := hok.2.2.1
        have ok2 : x2.size ≤ 9223372036854775807 := hok.2.2.2
        clear hln hcs hsn hall hmem hok
        by_cases l1 : 300 < x1.size
        · have hno : fewM l = false := by
            unfold fewM
            rw [List.all_eq_false.2 ⟨_, HS.out.2.2, by rw [show shortM ⟨x0, x1, x2⟩ = (decide (x1.size ≤ 300) && decide (x2.size ≤ 300)) from rfl, decide_eq_false (by omega)]; simp⟩]; rfl
          have HN := Lib.hid hno
          clear hno
          go_wp2_with fail
          go_ret
          exact ⟨by rw [HN.out]; rfl, rfl⟩
        · by_cases l2 : 300 < x2.size
          · have hno : fewM l = false := by
              unfold fewM
              rw [List.all_eq_false.2 ⟨_, HS.out.2.2, by rw [show shortM ⟨x0, x1, x2⟩ = (decide (x1.size ≤ 300) && decide (x2.size ≤ 300)) from rfl, decide_eq_false (p := x2.size ≤ 300) (by omega)]; simp⟩]; rfl
            have HN := Lib.hid hno
            clear hno
            go_wp2_with fail
            go_ret
            exact ⟨by rw [HN.out]; rfl, rfl⟩
          · have hys : shortM ⟨x0, x1, x2⟩ = true := by rw [show shortM ⟨x0, x1, x2⟩ = (decide (x1.size ≤ 300) && decide (x2.size ≤ 300)) from rfl, decide_eq_true (by omega), decide_eq_true (by omega)]; rfl
            have HY := Lib.hid hys
            clear hys
            go_wp2_with fail
            go_round
            case rel => exact ⟨k + 1, by omega, by omega, by go_num, by rw [HS.out.1, List.all_append, HS.out.2.1, Bool.true_and, List.all_cons, List.all_nil, Bool.and_true, HY.out]⟩
            case measure => simp [intOf]; omega
      · have hno : fewM l = false := by unfold fewM; rw [decide_eq_false (by omega)]; simp
        have HN := Lib.hid hno
        have h11 : ¬ ((k : Int) ≤ 10) := by omega
        have hn10 : ¬ ((n : Int) ≤ 10) := by omega
        clear hno hall hln
        go_wp2_with fail
        go_ret
        refine ⟨?_, rfl⟩
        rw [HN.out, show false = decide ((n : Int) ≤ 10) from (decide_eq_false (show ¬ (n : Int) ≤ 10 by omega)).symm]
        rfl
    · obtain rfl : k = n := by omega
      rw [List.take_of_length_le (by omega)] at hall
      have hv : fewM l = decide ((k : Int) ≤ 10) := by unfold fewM; rw [hall, Bool.true_and, decide_eq_decide]; omega
      have HV := Lib.hid hv
      clear hall hv hln
      go_wp2_with fail
      go_ret
      exact ⟨by rw [HV.out]; rfl, rfl⟩
end Go.Proofs.Ytdjgndnllaingaa.LabW
/-
  EQUALITY OF STRUCTS OF ONE-CELL FIELDS, AS RUN EQUATIONS.
-/
namespace Go.Proofs.Ytdjgndnllaingaa.FrW
open Go.RowKit
def sameL (x1 y1 : ByteArray) (x2 y2 : ByteArray) : Bool := (x1.toList == y1.toList) && (x2.toList == y2.toList)
set_option maxRecDepth 100000 in
theorem equal_L (x1 y1 : ByteArray) (x2 y2 : ByteArray) (w : World) : (Op.equalIn 10000 60 (.agg #[.string x1, .string x2]) (.agg #[.string y1, .string y2])).run Try.prog w = .ok (sameL x1 y1 x2 y2) w := by
  have ht : Try.prog.underlying 60 = some (.struct (Try.prog.fieldsOf 60)) := by kernel_rfl
  have hp : Try.prog.stoodInHeld 60 = false := by kernel_rfl
  rw [run_equalIn_agg _ _ _ _ _ ht hp]
  unfold Program.fieldsOf sameL
  rw [Try.underlying60]
  clear ht hp
  have e0 := fun d a b => run_equalIn_string (P := Try.prog) w d 9 a b Try.underlying9
  simp (decide := true) only [Op.eqFields, Sem.run_ite, Sem.run_bind, Sem.run_pure, part, Try.isAgg9, Result.andThen_ok, if_false, if_true, show (#[.string x1, .string x2] : Array Value)[0]? = some (.string x1) from rfl, show (#[.string x1, .string x2] : Array Value)[1]? = some (.string x2) from rfl, show (#[.string y1, .string y2] : Array Value)[0]? = some (.string y1) from rfl, show (#[.string y1, .string y2] : Array Value)[1]? = some (.string y2) from rfl, e0 9998]
  cases (x1.toList == y1.toList) <;> cases (x2.toList == y2.toList) <;> rfl
theorem neq_L (x1 y1 : ByteArray) (x2 y2 : ByteArray) : ∀ w, (binOp .neq 60 (.agg #[.string x1, .string x2]) (.agg #[.string y1, .string y2])).run Try.prog w = .ok (.bool (!sameL x1 y1 x2 y2)) w := fun w => by
  rw [run_neq_struct, equal_L]; rfl
theorem eql_L (x1 y1 : ByteArray) (x2 y2 : ByteArray) : ∀ w, (binOp .eql 60 (.agg #[.string x1, .string x2]) (.agg #[.string y1, .string y2])).run Try.prog w = .ok (.bool (sameL x1 y1 x2 y2)) w := fun w => by
  rw [run_eql_struct, equal_L]; rfl
theorem guard_L : Try.prog.eqGuardType Try.prog.depth 60 = false := by kernel_rfl
end Go.Proofs.Ytdjgndnllaingaa.FrW
/-
  alluviumref06.Same, Longest: THE WALKS.
-/
namespace Go.Proofs.Ytdjgndnllaingaa.FrW
set_option linter.unusedVariables false
open Go.RowKit FrM LabM LbM LabW
theorem take_snocL {α : Type} (l : List α) (k : Nat) (h : k < l.length) : l.take (k + 1) = l.take k ++ [l[k]] := List.take_succ_eq_append_getElem h
theorem str_beq (a b : ByteArray) : (a.toList == b.toList) = decide (a = b) := by
  have h := bs_beq a.data.toList b.data.toList
  rw [bs_of, bs_of] at h
  rw [h]
  apply decide_eq_decide.2
  exact ⟨fun e => by rw [← bs_of a, ← bs_of b, e], fun e => by rw [e]⟩
set_option maxRecDepth 20000 in
set_option maxHeartbeats 2000000 in
theorem rsame_any (A : Option Addr) (n c : Nat) (l : List Lab) (A2 : Option Addr) (n2 c2 : Nat) (l2 : List Lab) (w : World) (hl : Comes w 2 encL okL A n c l) (hl2 : Comes w 2 encL okL A2 n2 c2 l2) :
    Calls Try.prog 52 #[.slice A n c, .slice A2 n2 c2] w fun e w' => e = .returned (.bool (decide (l = l2))) ∧ Below w.heap.size w w' := by
  have HL := Lib.hid hl
  have HL2 := Lib.hid hl2
  have hcap : c ≤ 9223372036854775807 := hl.cap
  have hle := hl.le
  have hcap2 : c2 ≤ 9223372036854775807 := hl2.cap
  have hle2 := hl2.le
  clear hl hl2
  by_cases hnn : n = n2
  · subst hnn
    go_enter Try.func52, Try.ntmps52
    go_wp2_with fail
    go_loopw [5] (fun v5 wr => ∃ k : Nat, k ≤ n ∧ v5 = .int .i64 k ∧ l.take k = l2.take k ∧ Below w.heap.size w wr) (fun v5 _ => n - (intOf v5).toNat)
    case atStart => exact ⟨0, Nat.zero_le _, rfl, rfl, Below.refl _ _⟩
    case round =>
      obtain ⟨k, hk, rfl, ht, ho⟩ := hrel
      have hln := HL.out.len
      have hln2 := HL2.out.len
      by_cases hlt : k < n
      · have hkl : k < l.length := by omega
        have hkl2 : k < l2.length := by omega
        obtain ⟨b, o, rfl, hcs⟩ := lab_cells HL.out.lies hkl
        obtain ⟨b2, o2, rfl, hcs2⟩ := lab_cells HL2.out.lies hkl2
        obtain ⟨hc0, hc1⟩ := hcs _ ho
        obtain ⟨hd0, hd1⟩ := hcs2 _ ho
        have hs1 := take_snocL l k hkl
        have hs2 := take_snocL l2 k hkl2
        generalize l[k] = x at *
        generalize l2[k] = y at *
        obtain ⟨x1, x2⟩ := x
        obtain ⟨y1, y2⟩ := y
        simp only [] at hc0 hc1 hd0 hd1
        have HO := Lib.hid ho
        have HT := Lib.hid ht
        rw [← ht] at hs2
        have HS := Lib.hid (And.intro hs1 hs2)
        clear hs1 hs2
        have i0 : (0 : Int) ≤ (k : Int) := by omega
        have i1 : (k : Int) < (n : Int) := by omega
        clear ho hln hcs hcs2 hln2
        have hneq := fun w => equal_L x1 y1 x2 y2 w
        have hgd := guard_L
        by_cases hxy : (x1, x2) = (y1, y2)
        · have hsm : sameL x1 y1 x2 y2 = true := by
            injection hxy with e1 e2; subst e1 e2; unfold sameL; simp
          rw [hsm] at hneq
          have HX := Lib.hid hxy
          clear hxy hsm ht
          go_wp2_with fail
          go_quiet (fail)
          go_wp2_with fail
          go_roundw
          case rel => exact ⟨k + 1, by omega, by go_num, by rw [HS.out.1, HS.out.2, HT.out, HX.out], HO.out.trans ⟨rfl, rfl, rfl, Nat.le_refl _, fun _ _ => rfl⟩⟩
          case measure => simp [intOf]; omega
        · have hsm : sameL x1 y1 x2 y2 = false := by
            unfold sameL
            rw [str_beq, str_beq]
            rw [Bool.and_eq_false_iff]
            by_cases h1 : x1 = y1
            · right; apply decide_eq_false; intro h2; exact hxy (by rw [h1, h2])
            · left; exact decide_eq_false h1
          rw [hsm] at hneq
          have hno : l ≠ l2 := by
            intro e
            have h1 := HS.out.1; have h2 := HS.out.2
            rw [e] at h1
            rw [h1, ht] at h2
            have := List.append_cancel_left h2
            simp at this
            exact hxy (by rw [this.1, this.2])
          have HX := Lib.hid hno
          clear hxy hsm hno ht
          go_wp2_with fail
          go_quiet (fail)
          go_wp2_with fail
          go_ret
          exact ⟨by rw [decide_eq_false HX.out]; rfl, HO.out.trans ⟨rfl, rfl, rfl, Nat.le_refl _, fun _ _ => rfl⟩⟩
      · obtain rfl : k = n := by omega
        rw [List.take_of_length_le (by omega), List.take_of_length_le (by omega)] at ht
        have HO := Lib.hid (And.intro ho ht)
        clear ho ht hln hln2
        go_wp2_with fail
        go_ret
        exact ⟨by rw [decide_eq_true HO.out.2]; rfl, HO.out.1⟩
  · have hno : l ≠ l2 := fun e => hnn (by rw [← HL.out.len, ← HL2.out.len, e])
    have HX := Lib.hid hno
    have hn3 : ((n : Int) == (n2 : Int)) = false := by simp; omega
    clear hno
    go_enter Try.func52, Try.ntmps52
    go_wp2_with fail
    go_ret
    exact ⟨by rw [decide_eq_false HX.out]; rfl, Below.refl _ _⟩
end Go.Proofs.Ytdjgndnllaingaa.FrW
/-
  HOW ARGUMENTS ARE OPENED: labels, matchers, samples, rows of labels; a matcher.
-/
namespace Go.Proofs.Ytdjgndnllaingaa
open Go.RowKit Go.Shelf LabM Go.ChangeShapes Go.WideShapes Go.Deep LabW
section
variable {H : Type} {enc : TypeId × Value → H} {w : World} {base : Nat} {spare : Nat → Bool} {held : Bool}
theorem dec_sam : ∀ n cs y, DataW.trod enc Try.prog w base spare held n 51 cs = some y → ∃ x, cs = encS x ∧ okS x := by
  intro n cs y h
  obtain ⟨hl, hf⟩ := trod_cells Try.underlying51 (by kernel_rfl) (by kernel_rfl) h
  obtain ⟨v0, n0, y0, hc0, ht0⟩ := hf 0 _ rfl
  obtain ⟨v1, n1, y1, hc1, ht1⟩ := hf 1 _ rfl
  obtain ⟨a, ha, -, wa⟩ := DataW.trod_int Try.underlying2 ht0
  obtain ⟨b, hb, -, wb⟩ := DataW.trod_int Try.underlying37 ht1
  obtain ⟨b0, b1⟩ := i64_of wa
  obtain ⟨x, hx, rfl⟩ := u64_of wb
  have hl2 : cs.length = 2 := hl
  match cs, hl2 with
  | [c0, c1], _ =>
    simp at hc0 hc1 ha hb
    exact ⟨(a, x), by unfold encS; simp [hc0, hc1, ha, hb], b0, b1, by omega, by show (x : Int) < _; omega⟩
theorem dec_lab : ∀ n cs y, DataW.trod enc Try.prog w base spare held n 60 cs = some y → ∃ x, cs = encL x ∧ okL x := by
  intro n cs y h
  obtain ⟨hl, hf⟩ := trod_cells Try.underlying60 (by kernel_rfl) (by kernel_rfl) h
  obtain ⟨v0, n0, y0, hc0, ht0⟩ := hf 0 _ rfl
  obtain ⟨v1, n1, y1, hc1, ht1⟩ := hf 1 _ rfl
  obtain ⟨a, ha, -, wa⟩ := DataW.trod_string Try.underlying9 ht0
  obtain ⟨b, hb, -, wb⟩ := DataW.trod_string Try.underlying9 ht1
  have hl2 : cs.length = 2 := hl
  match cs, hl2 with
  | [c0, c1], _ =>
    simp at hc0 hc1 ha hb
    exact ⟨(a, b), by unfold encL; simp [hc0, hc1, ha, hb], wa, wb⟩
theorem dec_mat : ∀ n cs y, DataW.trod enc Try.prog w base spare held n 80 cs = some y → ∃ x, cs = encM x ∧ okM x := by
  intro n cs y h
  obtain ⟨hl, hf⟩ := trod_cells Try.underlying80 (by kernel_rfl) (by kernel_rfl) h
  obtain ⟨v0, n0, y0, hc0, ht0⟩ := hf 0 _ rfl
  obtain ⟨v1, n1, y1, hc1, ht1⟩ := hf 1 _ rfl
  obtain ⟨v2, n2, y2, hc2, ht2⟩ := hf 2 _ rfl
  obtain ⟨k, hk, -, wk⟩ := DataW.trod_int Try.underlying3 ht0
  obtain ⟨a, ha, -, wa⟩ := DataW.trod_string Try.underlying9 ht1
  obtain ⟨b, hb, -, wb⟩ := DataW.trod_string Try.underlying9 ht2
  obtain ⟨b0, b1⟩ := i64_of wk
  have hl2 : cs.length = 3 := hl
  match cs, hl2 with
  | [c0, c1, c2], _ =>
    simp at hc0 hc1 hc2 hk ha hb
    exact ⟨(k, a, b), by unfold encM; simp [hc0, hc1, hc2, hk, ha, hb], b0, b1, wa, wb⟩
variable {a0 : Option Addr} {len cap : Nat} {d : DataW H} {ps : List MemPlace}
theorem open_slice_of_api_Sample (h : DataW.Trod enc Try.prog w base spare held 46 (.slice a0 len cap) d ps) : ∃ l, Comes w 2 encS okS a0 len cap l :=
  open_comes Try.underlying46 (by kernel_rfl) (by decide) encS okS (fun _ => rfl) dec_sam h
theorem open_slice_of_api_Label (h : DataW.Trod enc Try.prog w base spare held 35 (.slice a0 len cap) d ps) : ∃ l, Comes w 2 encL okL a0 len cap l :=
  open_comes Try.underlying35 (by kernel_rfl) (by decide) encL okL (fun _ => rfl) dec_lab h
theorem open_slice_of_api_Matcher (h : DataW.Trod enc Try.prog w base spare held 36 (.slice a0 len cap) d ps) : ∃ l, Comes w 3 encM okM a0 len cap l :=
  open_comes Try.underlying36 (by kernel_rfl) (by decide) encM okM (fun _ => rfl) dec_mat h
def hdrIn (w : World) (x : Hdr) : Prop := Comes w 2 encL okL x.1.1 x.1.2.1 x.1.2.2 x.2
theorem dec_hdr : ∀ n cs y, DataW.trod enc Try.prog w base spare held n 35 cs = some y → ∃ x, cs = encH x ∧ hdrIn w x := by
  intro n cs y h
  have key : ∃ a l c, cs = [Value.slice a l c] := by
    rcases open_slice Try.underlying35 h with ⟨hcs, _⟩ | ⟨a, len', cap', m, n, D, Pl, hcs, _⟩
    · exact ⟨none, 0, 0, hcs⟩
    · exact ⟨some a, len', cap', hcs⟩
  obtain ⟨a, l, c, rfl⟩ := key
  obtain ⟨L, hL⟩ := open_slice_of_api_Label (enc := enc) (w := w) (base := base) (spare := spare) (held := held) (a0 := a) (len := l) (cap := c) (d := y.1) (ps := y.2) ⟨n, h⟩
  exact ⟨((a, l, c), L), rfl, hL⟩
set_option maxRecDepth 100000 in
theorem open_api_Matcher {r : Reach} {b2 : Nat} {v : Value} (hv : Value.okWide Try.prog w r b2 80 v) (h : DataW.Trod enc Try.prog w base spare held 80 v d ps) : ∃ m : Mat, v = .agg #[.int .i64 m.1, .string m.2.1, .string m.2.2] ∧ okM m := by
  obtain ⟨cs, rfl, hsz⟩ := okWide_struct Try.underlying80 hv
  obtain ⟨n, h⟩ := h
  obtain ⟨x, hx, hok⟩ := dec_mat _ _ _ h
  refine ⟨x, ?_, hok⟩
  obtain ⟨l⟩ := cs
  have e : l = [.int .i64 x.1, .string x.2.1, .string x.2.2] := hx
  rw [e]
end
end Go.Proofs.Ytdjgndnllaingaa
