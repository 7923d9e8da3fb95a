/-
  label.Less, Same, Longest, Limit; alluviumref06.Same, Longest, Limit; Few: THE WALKS.
  alluviumref06.Longest, Same, Limit; label.Limit; Few: THE WALKS.
  EQUALITY OF STRUCTS OF ONE-CELL FIELDS, AS RUN EQUATIONS.
  alluviumref07.Between, Same, Row: THE WALKS.
  append OF A WHOLE SLICE THAT LIES THERE (nil too), ONTO A ROW OF THE CALL'S OWN.
-/
import Derived.Test.YtdjgndnllaingaaJ10
import Derived.BigRegion
import Derived.Test.YtdjgndnllaingaaRows
import Derived.Test.YtdjgndnllaingaaJ04
import Derived.Laws.StructEq
import Derived.Test.YtdjgndnllaingaaJ09
import Derived.Test.YtdjgndnllaingaaJ05
import Derived.Maps.AppendAt
/-
  label.Less, Same, Longest, Limit; alluviumref06.Same, Longest, Limit; Few: THE WALKS.
-/
namespace Go.Proofs.Ytdjgndnllaingaa.FrW
set_option linter.unusedVariables false
open Go.RowKit FrM LabM LbM LabW
theorem bs_lss (a b : List UInt8) : Op.bytesLess (bs a).toList (bs b).toList = ltB a b := by
  rw [bytesLess_ltB, ByteArray.toList_eq, ByteArray.toList_eq]; rfl
theorem bs_beq (a b : List UInt8) : ((bs a).toList == (bs b).toList) = decide (a = b) := by
  rw [ByteArray.toList_eq, ByteArray.toList_eq, bs_list, bs_list]
  by_cases h : a = b
  · subst h; simp
  · rw [decide_eq_false h]; simp [h]
set_option maxHeartbeats 400000 in
theorem less_any (A1 : Option Addr) (n1 c1 : Nat) (a : List Lab) (A2 : Option Addr) (n2 c2 : Nat) (b : List Lab) (w : World) (ha : Comes w 2 encL okL A1 n1 c1 a) (hb : Comes w 2 encL okL A2 n2 c2 b) (h1 : n1 ≤ 10) (h2 : n2 ≤ 10) (s1 : shortL a) (s2 : shortL b) :
    Calls Try.prog 31 #[.slice A1 n1 c1, .slice A2 n2 c2] w fun e w' => e = .returned (.bool (ltB (keyL a) (keyL b))) ∧ Below w.heap.size w w' := by
  have HK1 := Lib.hid (key_any A1 n1 c1 a w ha h1 s1)
  have HK2 := Lib.hid (fun W (h : Below w.heap.size w W) => key_any A2 n2 c2 b W (hb.later h) h2 s2)
  have HL := Lib.hid (bs_lss (keyL a) (keyL b))
  obtain ⟨X, hX⟩ : ∃ X, bs (keyL a) = X := ⟨_, rfl⟩
  obtain ⟨Y, hY⟩ : ∃ Y, bs (keyL b) = Y := ⟨_, rfl⟩
  obtain ⟨R, hR⟩ : ∃ R, ltB (keyL a) (keyL b) = R := ⟨_, rfl⟩
  rw [hX] at HK1 HL
  rw [hY] at HK2 HL
  rw [hR] at HL ⊢
  have hL := HL.out
  clear hX hY hR ha hb s1 s2 HL
  go_enter Try.func31, Try.ntmps31
  go_wp2_with fail
  refine HK1.out.mono ?_
  rintro e w1 ⟨rfl, hb1⟩
  go_wp2_with fail
  refine (HK2.out w1 hb1).mono ?_
  rintro e w2 ⟨rfl, hb2⟩
  go_wp2_with fail
  go_ret
  exact ⟨rfl, later hb1 hb2⟩
set_option maxHeartbeats 400000 in
theorem same_any (A1 : Option Addr) (n1 c1 : Nat) (a : List Lab) (A2 : Option Addr) (n2 c2 : Nat) (b : List Lab) (w : World) (ha : Comes w 2 encL okL A1 n1 c1 a) (hb : Comes w 2 encL okL A2 n2 c2 b) (h1 : n1 ≤ 10) (h2 : n2 ≤ 10) (s1 : shortL a) (s2 : shortL b) :
    Calls Try.prog 27 #[.slice A1 n1 c1, .slice A2 n2 c2] w fun e w' => e = .returned (.bool (decide (a = b))) ∧ Below w.heap.size w w' := by
  have HK1 := Lib.hid (key_any A1 n1 c1 a w ha h1 s1)
  have HK2 := Lib.hid (fun W (h : Below w.heap.size w W) => key_any A2 n2 c2 b W (hb.later h) h2 s2)
  have HL := Lib.hid (bs_beq (keyL a) (keyL b))
  have hla := ha.len
  have hlb := hb.len
  have f1 : fits64 a := fun x hx => by have := s1 x hx; simp; omega
  have f2 : fits64 b := fun x hx => by have := s2 x hx; simp; omega
  by_cases hn : n1 = n2
  · have hR : decide (a = b) = decide (keyL a = keyL b) := by
      apply decide_eq_decide.2
      exact ⟨fun e => by rw [e], fun e => key_inj a b f1 f2 (by omega) e⟩
    rw [hR]
    obtain ⟨X, hX⟩ : ∃ X, bs (keyL a) = X := ⟨_, rfl⟩
    obtain ⟨Y, hY⟩ : ∃ Y, bs (keyL b) = Y := ⟨_, rfl⟩
    obtain ⟨R, hR⟩ : ∃ R, decide (keyL a = keyL b) = R := ⟨_, rfl⟩
    rw [hX] at HK1 HL
    rw [hY] at HK2 HL
    rw [hR] at HL ⊢
    have hL := HL.out
    have hnb : ((n1 : Int) == (n2 : Int)) = true := by simp; omega
    clear hX hY hR ha hb s1 s2 HL hla hlb f1 f2 hn
    go_enter Try.func27, Try.ntmps27
    go_wp2_with fail
    refine HK1.out.mono ?_
    rintro e w1 ⟨rfl, hb1⟩
    go_wp2_with fail
    refine (HK2.out w1 hb1).mono ?_
    rintro e w2 ⟨rfl, hb2⟩
    go_wp2_with fail
    go_ret
    exact ⟨rfl, later hb1 hb2⟩
  · have hR : decide (a = b) = false := decide_eq_false (fun e => hn (by rw [← hla, ← hlb, e]))
    rw [hR]
    have hnb : ((n1 : Int) == (n2 : Int)) = false := by simp; omega
    clear hR ha hb s1 s2 HL hla hlb f1 f2 HK1 HK2
    go_enter Try.func27, Try.ntmps27
    go_wp2_with fail
    go_ret
    exact ⟨rfl, Below.refl _ _⟩
/-- The longest name, or value. -/
def longL : List Lab → Nat
  | [] => 0
  | x :: l => max (max x.1.size x.2.size) (longL l)
theorem longL_at (l : List Lab) (k : Nat) (h : k < l.length) : longL (l.drop k) = max (max l[k].1.size l[k].2.size) (longL (l.drop (k + 1))) := by
  rw [List.drop_eq_getElem_cons h, longL]
set_option maxHeartbeats 1000000 in
theorem longest_any (A : Option Addr) (n c : Nat) (l : List Lab) (w : World) (hl : Comes w 2 encL okL A n c l) :
    Calls Try.prog 42 #[.slice A n c] w fun e w' => e = .returned (.int .i64 (longL l : Int)) ∧ Below w.heap.size w w' := by
  have HL := Lib.hid hl
  have hcap : c ≤ 9223372036854775807 := hl.cap
  have hle := hl.le
  obtain ⟨S, hS⟩ : ∃ S, longL l = S := ⟨_, rfl⟩
  rw [hS]
  have HK := Lib.hid hS
  clear hl hS
  go_enter Try.func42, Try.ntmps42
  go_wp2_with fail
  go_loopw [3, 8] (fun v3 v8 wr => ∃ (k m : Nat), k ≤ n ∧ v8 = .int .i64 k ∧ v3 = .int .i64 m ∧ S = max m (longL (l.drop k)) ∧ Below w.heap.size w wr) (fun _ v8 _ => n - (intOf v8).toNat)
  case atStart => exact ⟨0, 0, Nat.zero_le _, rfl, rfl, by rw [Nat.zero_max]; exact HK.out.symm, Below.refl _ _⟩
  case round =>
    obtain ⟨k, m, hk, rfl, rfl, hacc, ho⟩ := hrel
    have hln := HL.out.len
    by_cases hlt : k < n
    · have hkl : k < l.length := by omega
      obtain ⟨b, o, rfl, hcs⟩ := lab_cells HL.out.lies hkl
      obtain ⟨hc0, hc1⟩ := hcs _ ho
      rw [longL_at l k hkl] at hacc
      generalize l[k] = x at *
      obtain ⟨x1, x2⟩ := x
      simp only [] at hc0 hc1 hacc
      have HO := Lib.hid (And.intro ho hacc)
      clear ho hln hcs hacc
      rcases Nat.lt_or_ge m x1.size with h1 | h1 <;> rcases Nat.lt_or_ge m x2.size with h2 | h2 <;> rcases Nat.lt_or_ge x1.size x2.size with h3 | h3
      all_goals first | (exfalso; omega) | (
        go_wp2_with fail
        go_roundw
        case rel => exact ⟨k + 1, max m (max x1.size x2.size), by omega, by go_num, by congr 1; omega, by rw [HO.out.2]; omega, HO.out.1.alloc HO.out.1.size _⟩
        case measure => simp [intOf]; omega)
    · obtain rfl : k = n := by omega
      rw [List.drop_of_length_le (by omega)] at hacc
      have hS : S = m := by rw [hacc]; exact Nat.max_zero m
      subst hS
      have HO := Lib.hid ho
      clear ho hacc
      go_wp2_with fail
      go_ret
      exact ⟨rfl, HO.out⟩
end Go.Proofs.Ytdjgndnllaingaa.FrW
/-
  alluviumref06.Longest, Same, Limit; label.Limit; Few: THE WALKS.
-/
namespace Go.Proofs.Ytdjgndnllaingaa.FrW
set_option linter.unusedVariables false
open Go.RowKit FrM LabM LbM LabW
/-- The limit of a generation. -/
def limI (g : Int) : Int := if g = 1 then 12 else if g = 2 then 24 else if g = 3 then 48 else 0
theorem limit_any (g : Int) (w : World) :
    Calls Try.prog 43 #[.int .i64 g] w fun e w' => e = .returned (.int .i64 (limI g)) ∧ w' = w := by
  by_cases h1 : g = 1
  · subst h1
    go_enter Try.func43, Try.ntmps43
    go_wp2
    go_ret
    exact ⟨rfl, rfl⟩
  by_cases h2 : g = 2
  · subst h2
    go_enter Try.func43, Try.ntmps43
    go_wp2
    go_ret
    exact ⟨rfl, rfl⟩
  by_cases h3 : g = 3
  · subst h3
    go_enter Try.func43, Try.ntmps43
    go_wp2
    go_ret
    exact ⟨rfl, rfl⟩
  have hR : limI g = 0 := by unfold limI; rw [if_neg h1, if_neg h2, if_neg h3]
  rw [hR]
  by_cases h4 : g < 1
  · have h5 : decide (g < 1) = true := by simp; omega
    clear h1 h2 h3 hR
    go_enter Try.func43, Try.ntmps43
    go_wp2
    go_ret
    exact ⟨rfl, rfl⟩
  · have h5 : g > 3 := by omega
    clear h1 h2 h3 hR
    go_enter Try.func43, Try.ntmps43
    go_wp2
    go_ret
    exact ⟨rfl, rfl⟩
end Go.Proofs.Ytdjgndnllaingaa.FrW
/-
  EQUALITY OF STRUCTS OF ONE-CELL FIELDS, AS RUN EQUATIONS.
-/
namespace Go.Proofs.Ytdjgndnllaingaa.LabW
open Go.RowKit
def sameS (x1 y1 : Int) (x2 y2 : Int) : Bool := (x1 == y1) && (x2 == y2)
set_option maxRecDepth 100000 in
theorem equal_S (x1 y1 : Int) (x2 y2 : Int) (w : World) : (Op.equalIn 10000 51 (.agg #[.int .i64 x1, .int .u64 x2]) (.agg #[.int .i64 y1, .int .u64 y2])).run Try.prog w = .ok (sameS x1 y1 x2 y2) w := by
  have ht : Try.prog.underlying 51 = some (.struct (Try.prog.fieldsOf 51)) := by kernel_rfl
  have hp : Try.prog.stoodInHeld 51 = false := by kernel_rfl
  rw [run_equalIn_agg _ _ _ _ _ ht hp]
  unfold Program.fieldsOf sameS
  rw [Try.underlying51]
  clear ht hp
  have e0 := fun d a b => run_equalIn_int (P := Try.prog) w d 2 .i64 .i64 a b Try.underlying2
  have e1 := fun d a b => run_equalIn_int (P := Try.prog) w d 37 .u64 .u64 a b Try.underlying37
  simp (decide := true) only [Op.eqFields, Sem.run_ite, Sem.run_bind, Sem.run_pure, part, Try.isAgg2, Try.isAgg37, Result.andThen_ok, if_false, if_true, show (#[.int .i64 x1, .int .u64 x2] : Array Value)[0]? = some (.int .i64 x1) from rfl, show (#[.int .i64 x1, .int .u64 x2] : Array Value)[1]? = some (.int .u64 x2) from rfl, show (#[.int .i64 y1, .int .u64 y2] : Array Value)[0]? = some (.int .i64 y1) from rfl, show (#[.int .i64 y1, .int .u64 y2] : Array Value)[1]? = some (.int .u64 y2) from rfl, e0 9998, e1 9998]
  cases (x1 == y1) <;> cases (x2 == y2) <;> rfl
theorem neq_S (x1 y1 : Int) (x2 y2 : Int) : ∀ w, (binOp .neq 51 (.agg #[.int .i64 x1, .int .u64 x2]) (.agg #[.int .i64 y1, .int .u64 y2])).run Try.prog w = .ok (.bool (!sameS x1 y1 x2 y2)) w := fun w => by
  rw [run_neq_struct, equal_S]; rfl
theorem eql_S (x1 y1 : Int) (x2 y2 : Int) : ∀ w, (binOp .eql 51 (.agg #[.int .i64 x1, .int .u64 x2]) (.agg #[.int .i64 y1, .int .u64 y2])).run Try.prog w = .ok (.bool (sameS x1 y1 x2 y2)) w := fun w => by
  rw [run_eql_struct, equal_S]; rfl
theorem guard_S : Try.prog.eqGuardType Try.prog.depth 51 = false := by kernel_rfl
def sameL (x1 y1 : ByteArray) (x2 y2 : ByteArray) : Bool := (x1.toList == y1.toList) && (x2.toList == y2.toList)
set_option maxRecDepth 100000 in
theorem equal_L (x1 y1 : ByteArray) (x2 y2 : ByteArray) (w : World) : (Op.equalIn 10000 60 (.agg #[.string x1, .string x2]) (.agg #[.string y1, .string y2])).run Try.prog w = .ok (sameL x1 y1 x2 y2) w := by
  have ht : Try.prog.underlying 60 = some (.struct (Try.prog.fieldsOf 60)) := by kernel_rfl
  have hp : Try.prog.stoodInHeld 60 = false := by kernel_rfl
  rw [run_equalIn_agg _ _ _ _ _ ht hp]
  unfold Program.fieldsOf sameL
  rw [Try.underlying60]
  clear ht hp
  have e0 := fun d a b => run_equalIn_string (P := Try.prog) w d 9 a b Try.underlying9
  simp (decide := true) only [Op.eqFields, Sem.run_ite, Sem.run_bind, Sem.run_pure, part, Try.isAgg9, Result.andThen_ok, if_false, if_true, show (#[.string x1, .string x2] : Array Value)[0]? = some (.string x1) from rfl, show (#[.string x1, .string x2] : Array Value)[1]? = some (.string x2) from rfl, show (#[.string y1, .string y2] : Array Value)[0]? = some (.string y1) from rfl, show (#[.string y1, .string y2] : Array Value)[1]? = some (.string y2) from rfl, e0 9998]
  cases (x1.toList == y1.toList) <;> cases (x2.toList == y2.toList) <;> rfl
theorem neq_L (x1 y1 : ByteArray) (x2 y2 : ByteArray) : ∀ w, (binOp .neq 60 (.agg #[.string x1, .string x2]) (.agg #[.string y1, .string y2])).run Try.prog w = .ok (.bool (!sameL x1 y1 x2 y2)) w := fun w => by
  rw [run_neq_struct, equal_L]; rfl
theorem eql_L (x1 y1 : ByteArray) (x2 y2 : ByteArray) : ∀ w, (binOp .eql 60 (.agg #[.string x1, .string x2]) (.agg #[.string y1, .string y2])).run Try.prog w = .ok (.bool (sameL x1 y1 x2 y2)) w := fun w => by
  rw [run_eql_struct, equal_L]; rfl
theorem guard_L : Try.prog.eqGuardType Try.prog.depth 60 = false := by kernel_rfl
def sameM (x1 y1 : Int) (x2 y2 : ByteArray) (x3 y3 : ByteArray) : Bool := (x1 == y1) && (x2.toList == y2.toList) && (x3.toList == y3.toList)
set_option maxRecDepth 100000 in
theorem equal_M (x1 y1 : Int) (x2 y2 : ByteArray) (x3 y3 : ByteArray) (w : World) : (Op.equalIn 10000 80 (.agg #[.int .i64 x1, .string x2, .string x3]) (.agg #[.int .i64 y1, .string y2, .string y3])).run Try.prog w = .ok (sameM x1 y1 x2 y2 x3 y3) w := by
  have ht : Try.prog.underlying 80 = some (.struct (Try.prog.fieldsOf 80)) := by kernel_rfl
  have hp : Try.prog.stoodInHeld 80 = false := by kernel_rfl
  rw [run_equalIn_agg _ _ _ _ _ ht hp]
  unfold Program.fieldsOf sameM
  rw [Try.underlying80]
  clear ht hp
  have e0 := fun d a b => run_equalIn_int (P := Try.prog) w d 3 .i64 .i64 a b Try.underlying3
  have e1 := fun d a b => run_equalIn_string (P := Try.prog) w d 9 a b Try.underlying9
  simp (decide := true) only [Op.eqFields, Sem.run_ite, Sem.run_bind, Sem.run_pure, part, Try.isAgg3, Try.isAgg9, Result.andThen_ok, if_false, if_true, show (#[.int .i64 x1, .string x2, .string x3] : Array Value)[0]? = some (.int .i64 x1) from rfl, show (#[.int .i64 x1, .string x2, .string x3] : Array Value)[1]? = some (.string x2) from rfl, show (#[.int .i64 x1, .string x2, .string x3] : Array Value)[2]? = some (.string x3) from rfl, show (#[.int .i64 y1, .string y2, .string y3] : Array Value)[0]? = some (.int .i64 y1) from rfl, show (#[.int .i64 y1, .string y2, .string y3] : Array Value)[1]? = some (.string y2) from rfl, show (#[.int .i64 y1, .string y2, .string y3] : Array Value)[2]? = some (.string y3) from rfl, e0 9998, e1 9998]
  cases (x1 == y1) <;> cases (x2.toList == y2.toList) <;> cases (x3.toList == y3.toList) <;> rfl
theorem neq_M (x1 y1 : Int) (x2 y2 : ByteArray) (x3 y3 : ByteArray) : ∀ w, (binOp .neq 80 (.agg #[.int .i64 x1, .string x2, .string x3]) (.agg #[.int .i64 y1, .string y2, .string y3])).run Try.prog w = .ok (.bool (!sameM x1 y1 x2 y2 x3 y3)) w := fun w => by
  rw [run_neq_struct, equal_M]; rfl
theorem eql_M (x1 y1 : Int) (x2 y2 : ByteArray) (x3 y3 : ByteArray) : ∀ w, (binOp .eql 80 (.agg #[.int .i64 x1, .string x2, .string x3]) (.agg #[.int .i64 y1, .string y2, .string y3])).run Try.prog w = .ok (.bool (sameM x1 y1 x2 y2 x3 y3)) w := fun w => by
  rw [run_eql_struct, equal_M]; rfl
theorem guard_M : Try.prog.eqGuardType Try.prog.depth 80 = false := by kernel_rfl
end Go.Proofs.Ytdjgndnllaingaa.LabW
/-
  alluviumref07.Between, Same, Row: THE WALKS.
-/
namespace Go.Proofs.Ytdjgndnllaingaa.LabW
open Go.RowKit Go.Shelf LabM
set_option maxRecDepth 20000 in
set_option maxHeartbeats 2000000 in
theorem rsame_any (A : Option Addr) (n c : Nat) (l : List Sam) (A2 : Option Addr) (n2 c2 : Nat) (l2 : List Sam) (w : World) (hl : Comes w 2 encS okS A n c l) (hl2 : Comes w 2 encS okS A2 n2 c2 l2) :
    Calls Try.prog 53 #[.slice A n c, .slice A2 n2 c2] w fun e w' => e = .returned (.bool (decide (l = l2))) ∧ Below w.heap.size w w' := by
  have HL := Lib.hid hl
  have HL2 := Lib.hid hl2
  have hcap : c ≤ 9223372036854775807 := hl.cap
  have hle := hl.le
  have hcap2 : c2 ≤ 9223372036854775807 := hl2.cap
  have hle2 := hl2.le
  clear hl hl2
  by_cases hnn : n = n2
  · subst hnn
    go_enter Try.func53, Try.ntmps53
    go_wp2_with fail
    go_loopw [5] (fun v5 wr => ∃ k : Nat, k ≤ n ∧ v5 = .int .i64 k ∧ l.take k = l2.take k ∧ Below w.heap.size w wr) (fun v5 _ => n - (intOf v5).toNat)
    case atStart => exact ⟨0, Nat.zero_le _, rfl, rfl, Below.refl _ _⟩
    case round =>
      obtain ⟨k, hk, rfl, ht, ho⟩ := hrel
      have hln := HL.out.len
      have hln2 := HL2.out.len
      by_cases hlt : k < n
      · have hkl : k < l.length := by omega
        have hkl2 : k < l2.length := by omega
        obtain ⟨b, o, rfl, hcs⟩ := S_cells HL.out.lies hkl
        obtain ⟨b2, o2, rfl, hcs2⟩ := S_cells HL2.out.lies hkl2
        obtain ⟨hc0, hc1⟩ := hcs _ ho
        obtain ⟨hd0, hd1⟩ := hcs2 _ ho
        have hs1 := take_snocL l k hkl
        have hs2 := take_snocL l2 k hkl2
        generalize l[k] = x at *
        generalize l2[k] = y at *
        obtain ⟨x1, x2⟩ := x
        obtain ⟨y1, y2⟩ := y
        simp only [] at hc0 hc1 hd0 hd1
        have HO := Lib.hid ho
        have HT := Lib.hid ht
        rw [← ht] at hs2
        have HS := Lib.hid (And.intro hs1 hs2)
        clear hs1 hs2
        have i0 : (0 : Int) ≤ (k : Int) := by omega
        have i1 : (k : Int) < (n : Int) := by omega
        clear ho hln hcs hcs2 hln2
        have hneq := fun w => equal_S x1 y1 x2 y2 w
        have hgd := guard_S
        by_cases hxy : (x1, x2) = (y1, y2)
        · have hsm : sameS x1 y1 x2 y2 = true := by
            injection hxy with e1 e2; subst e1 e2; unfold sameS; simp
          rw [hsm] at hneq
          have HX := Lib.hid hxy
          clear hxy hsm ht
          go_wp2_with fail
          go_quiet (fail)
          go_wp2_with fail
          go_roundw
          case rel => exact ⟨k + 1, by omega, by go_num, by rw [HS.out.1, HS.out.2, HT.out, HX.out], HO.out.trans ⟨rfl, rfl, rfl, Nat.le_refl _, fun _ _ => rfl⟩⟩
          case measure => simp [intOf]; omega
        · have hsm : sameS x1 y1 x2 y2 = false := by
            cases h : sameS x1 y1 x2 y2 with
            | false => rfl
            | true =>
              unfold sameS at h
              simp at h
              exact absurd (by rw [h.1, h.2]) hxy
          rw [hsm] at hneq
          have hno : l ≠ l2 := by
            intro e
            have h1 := HS.out.1; have h2 := HS.out.2
            rw [e] at h1
            rw [h1, ht] at h2
            have := List.append_cancel_left h2
            simp at this
            exact hxy (by rw [this.1, this.2])
          have HX := Lib.hid hno
          clear hxy hsm hno ht
          go_wp2_with fail
          go_quiet (fail)
          go_wp2_with fail
          go_ret
          exact ⟨by rw [decide_eq_false HX.out]; rfl, HO.out.trans ⟨rfl, rfl, rfl, Nat.le_refl _, fun _ _ => rfl⟩⟩
      · obtain rfl : k = n := by omega
        rw [List.take_of_length_le (by omega), List.take_of_length_le (by omega)] at ht
        have HO := Lib.hid (And.intro ho ht)
        clear ho ht hln hln2
        go_wp2_with fail
        go_ret
        exact ⟨by rw [decide_eq_true HO.out.2]; rfl, HO.out.1⟩
  · have hno : l ≠ l2 := by
      intro e; apply hnn; rw [← HL.out.len, ← HL2.out.len, e]
    have HX := Lib.hid hno
    have hni : ¬ ((n : Int) = (n2 : Int)) := by omega
    have hne2 : ((n : Int) != (n2 : Int)) = true := by simpa using hni
    clear hni
    clear hno hnn
    go_enter Try.func53, Try.ntmps53
    go_wp2_with fail
    go_ret
    exact ⟨by rw [decide_eq_false HX.out]; rfl, Below.refl _ _⟩
end Go.Proofs.Ytdjgndnllaingaa.LabW
/-
  append OF A WHOLE SLICE THAT LIES THERE (nil too), ONTO A ROW OF THE CALL'S OWN.
-/
namespace Go.Proofs.Ytdjgndnllaingaa
open Go.RowKit
theorem run_append_none {P : Program} (w : World) (t ty e : TypeId) (i : TypeInfo) (ht : P.underlying t = some (.slice e)) (hi : P.info? e = some i) (b : Option Addr) (n cap c : Nat) (hnc : n ≤ cap) :
    (Builtin.append_ #[t, t] ty #[.slice b n cap, .slice none 0 c]).run P w = .ok (.slice b n cap) w := by
  cases b with
  | none => simp [Builtin.append_, run_underlying ht, sizeOf, typeInfo, hi, Builtin.lenOf, Builtin.firstCells, hnc]
  | some a => simp [Builtin.append_, run_underlying ht, sizeOf, typeInfo, hi, Builtin.lenOf, Builtin.firstCells, hnc, storeCells]
theorem Comes.news {α : Type} {w : World} {size : Nat} {encA : α → List Value} {okA : α → Prop} {ad : Addr} {m c : Nat} {l : List α} (h : Comes w size encA okA (some ad) m c l) (hs : ∀ x, (encA x).length = size) (h0 : 0 < size) : ∀ j u, (l.flatMap encA)[j]? = some u → w.cell? (ad.add j) = some u := by
  intro j u hj
  have hjl : j < l.length * size := by
    have := (List.getElem?_eq_some_iff.1 hj).1
    rwa [flatMap_len hs] at this
  have hi : j / size < l.length := (Nat.div_lt_iff_lt_mul h0).2 hjl
  obtain ⟨b, o, hA, -, hc⟩ := h.lies (j / size) _ (List.getElem?_eq_getElem hi)
  have hA' : ad = ⟨b, o, none⟩ := Option.some.inj hA
  have hr : j % size < size := Nat.mod_lt _ h0
  have hd : j / size * size + j % size = j := by rw [Nat.mul_comm]; exact Nat.div_add_mod j size
  have hf := flatMap_at hs l (j / size) _ (List.getElem?_eq_getElem hi) (j % size) hr
  rw [hd, hj] at hf
  have hcc := hc (j % size) u hf.symm
  rw [hA', Addr.add_lit, ← hcc]
  congr 2
  omega
theorem wpList_append_comes {P : Program} {α : Type} {ops : Array Oper} {rest : List Oper} {o : Oper} {a : Act} {Q : Exit → Act → World → Prop} (hgd : o.guard = none) (s x : Operand) (t : TypeId)
    (ho : o.op = .call { callee := .builtin .append, args := #[s, x], argTypes := #[t, t] })
    (base : Nat) (e : TypeId) (z : Value) (size bytes : Nat) (ht : P.underlying t = some (.slice e)) (he : Elem P e z size bytes) (hzs : z.cells.size = size) (hsz : 0 < size)
    {v : Value} {n : Nat} {xs : List Value} (w : World) (hown : w.ownsRow base e size v n xs) (hs : a.eval s = v)
    {encA : α → List Value} {okA : α → Prop} {A : Option Addr} {m c : Nat} {l : List α} (hx : a.eval x = .slice A m c) (hl : Comes w size encA okA A m c l)
    (hes : ∀ x, (encA x).length = size) (h1 : ∀ x, ∀ u ∈ encA x, u.oneCell' = true)
    (hbytes : (n + m) * bytes ≤ 140737488355328) (h63 : n + m ≤ 140737488355328) (hbase : base ≤ w.heap.size)
    (h : ∀ v' w', w'.ownsRow base e size v' (n + m) (xs ++ l.flatMap encA) → Below base w w' → wpList P ops Q rest (a.put o.dst v') w') :
    wpList P ops Q (o :: rest) a w := by
  obtain ⟨i0, hi, hz0, hz1, hz2⟩ := info_parts he
  cases A with
  | none =>
    have hl0 : l = [] := by
      cases l with
      | nil => rfl
      | cons y l => obtain ⟨b, o, hA, _⟩ := hl.lies 0 y rfl; cases hA
    subst hl0
    have hm : m = 0 := hl.len.symm
    subst hm
    refine wpList_plain hgd fun _ hK => ?_
    unfold Oper.wp execOp
    have hrun : (Builtin.append_ #[t, t] o.type #[v, .slice none 0 c]).run P w = .ok v w := by
      rcases hown.2 with ⟨rfl, rfl⟩ | ⟨g, cap, cur, rfl, _, _, hnc, _⟩
      · exact run_append_none w t o.type e i0 ht hi none 0 0 c (Nat.le_refl _)
      · exact run_append_none w t o.type e i0 ht hi (some ⟨g, 0, none⟩) n cap c hnc
    simp only [ho, resolve, invoke, builtin, Sem.run_bind, Sem.run_pure, Result.andThen_ok, List.map_toArray, List.map_cons, List.map_nil, hs, hx, hrun]
    refine hK _ _ (h v w ?_ (Below.refl _ _))
    simpa using hown
  | some ad =>
    refine wpList_append_own (w := w) hgd s x t ho base e i0 z size bytes ht hi hz0 hz1 hz2 hzs hsz v n xs hs hown ad m c (l.flatMap encA) hx (by rw [flatMap_len hes, hl.len]) (hl.news hes hsz) ?_ ?_ hbytes hbase ?_
    · intro u hu
      obtain ⟨y, _, hy⟩ := List.mem_flatMap.1 hu
      exact h1 y u hy
    · unfold maxLen; omega
    · intro v' w' hown' hg _
      refine h v' w' hown' ?_
      refine (Below.refl base w).grown hg hbase ?_
      intro k hk
      rcases hown.2 with ⟨hv, _⟩ | ⟨g, cap, cur, hv, hgb, _⟩
      · rw [hv] at hk; cases hk
      · rw [hv] at hk; cases hk; exact hgb
end Go.Proofs.Ytdjgndnllaingaa
