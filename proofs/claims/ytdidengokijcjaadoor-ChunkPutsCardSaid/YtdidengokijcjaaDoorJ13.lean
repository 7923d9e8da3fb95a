/-
  match.Between, Without, Sorted: THE WALKS.
  EQUALITY OF STRUCTS OF ONE-CELL FIELDS, AS RUN EQUATIONS.
  alluviumref07.Between, Same, Row: THE WALKS.
  chunk.putWide: THE WALK.
  chunk.putSmall: THE WALK.
  THE SHELF LAYINGS OF math/bits AT THIS PROGRAM, IN PLAIN WORDS: written by lay-plain.
  math/bits' CONTRACTS OFF THE SHELF, AND bits.Lead, bits.Trail.
-/
import Derived.Test.YtdidengokijcjaaDoorJ12
import Derived.Deep.Onto
import Derived.Test.YtdidengokijcjaaDoorRows
import Derived.Test.YtdidengokijcjaaDoorJ02
import Derived.Laws.StructEq
import Derived.Test.YtdidengokijcjaaDoorJ11
import Derived.Deep.RegionHeld3
import Derived.Shelf.Small.Bits
import Derived.Shelf.Strconv.Itoa0
import Derived.Shelf.Spec.TrailingZeros
import Derived.Ground.Names2Prog
import Derived.Ground.Names7Prog
/-
  match.Between, Without, Sorted: THE WALKS.
-/
namespace Go.Proofs.YtdidengokijcjaaDoor.LabW
open Go.RowKit Go.Shelf LabM
def insideB (f t : Int) (x : Sam) : Bool := decide (f ≤ x.1) && decide (x.1 ≤ t)
/-- Do times rise? -/
def sortedL : List Sam → Bool
  | [] => true
  | [_] => true
  | x :: y :: l => decide (x.1 < y.1) && sortedL (y :: l)
theorem sortedL_at (l : List Sam) (k : Nat) (h : k + 1 < l.length) : sortedL (l.drop k) = (decide (l[k].1 < l[k + 1].1) && sortedL (l.drop (k + 1))) := by
  rw [List.drop_eq_getElem_cons (by omega : k < l.length), List.drop_eq_getElem_cons h, sortedL]
theorem sortedL_at2 (l : List Sam) (p k : Nat) (hk : k = p + 1) (h : k < l.length) (hp : p < l.length) : sortedL (l.drop p) = (decide (l[p].1 < l[k].1) && sortedL (l.drop k)) := by
  subst hk; exact sortedL_at l p h
theorem sortedL_end (l : List Sam) (k : Nat) (h : l.length ≤ k + 1) : sortedL (l.drop k) = true := by
  have hl : (l.drop k).length ≤ 1 := by rw [List.length_drop]; omega
  match l.drop k, hl with
  | [], _ => rfl
  | [_], _ => rfl
set_option maxHeartbeats 2000000 in
theorem sorted_any (A : Option Addr) (n c : Nat) (l : List Sam) (w : World) (hl : Comes w 2 encS okS A n c l) :
    Calls Tryd.prog 13 #[.slice A n c] w fun e w' => e = .returned (.bool (sortedL l)) ∧ Below w.heap.size w w' := by
  have HL := Lib.hid hl
  have hcap : c ≤ 9223372036854775807 := hl.cap
  have hle := hl.le
  clear hl
  go_enter Tryd.func13, Tryd.ntmps13
  go_wp2_with fail
  go_loopw [6] (fun v6 wr => ∃ k : Nat, k ≤ n ∧ v6 = .int .i64 k ∧ sortedL l = sortedL (l.drop (k - 1)) ∧ Below w.heap.size w wr) (fun v6 _ => n - (intOf v6).toNat)
  case atStart => exact ⟨0, Nat.zero_le _, rfl, rfl, Below.refl _ _⟩
  case round =>
    obtain ⟨k, hk, rfl, hs, ho⟩ := hrel
    have hln := HL.out.len
    by_cases hlt : k < n
    · have hkl : k < l.length := by omega
      obtain ⟨b, o, rfl, hcs⟩ := S_cells HL.out.lies hkl
      obtain ⟨hc0, hc1⟩ := hcs _ ho
      have HO := Lib.hid ho
      by_cases h0 : k = 0
      · have HS := Lib.hid hs
        clear ho hln hcs hs hc0 hc1
        subst h0
        go_wp2_with fail
        go_quiet (fail)
        go_wp2_with fail
        go_roundw
        case rel => exact ⟨1, by omega, rfl, HS.out, HO.out.trans ⟨rfl, rfl, rfl, Nat.le_refl _, fun _ _ => rfl⟩⟩
        case measure => simp [intOf]; omega
      · obtain ⟨p, hp⟩ : ∃ p, k = p + 1 := ⟨k - 1, by omega⟩
        obtain ⟨b2, o2, hA2, hcs2⟩ := S_cells HL.out.lies (show p < l.length by omega)
        obtain ⟨rfl, rfl⟩ : b = b2 ∧ o = o2 := by injection hA2 with hA2; injection hA2 with e1 e2; exact ⟨e1, e2⟩
        obtain ⟨hd0, hd1⟩ := hcs2 _ ho
        rw [show k - 1 = p by omega, sortedL_at2 l p k hp hkl (by omega)] at hs
        generalize l[p]'(by omega) = y at *
        generalize l[k] = x at *
        obtain ⟨x1, x2⟩ := x
        obtain ⟨y1, y2⟩ := y
        simp only [] at hc0 hd0 hs
        have HS := Lib.hid (And.intro hs hp)
        have i0 : (0 : Int) < (k : Int) := by omega
        have i0' : 0 < k := by omega
        have i1 : (k : Int) < (n : Int) := by omega
        have i3 : (0 : Int) ≤ (p : Int) := by omega
        have i4 : (p : Int) < (n : Int) := by omega
        have i2 : IntKind.i64.wrap ((k : Int) - 1) = (p : Int) := by rw [show (k : Int) - 1 = (p : Int) by omega]; exact IntWalk.i64_in _ (by omega)
        clear ho hln hcs hs hcs2 hA2 hc1 hd1 hp h0
        by_cases hyx : y1 < x1
        · have hge : ¬ x1 ≤ y1 := by omega
          have hged : decide (x1 ≤ y1) = false := decide_eq_false hge
          go_wp2_with fail
          go_quiet (fail)
          go_wp2_with fail
          go_roundw
          case rel => exact ⟨k + 1, by omega, by go_num, by rw [HS.out.1, decide_eq_true hyx, Bool.true_and, Nat.add_sub_cancel], HO.out.trans ⟨rfl, rfl, rfl, Nat.le_refl _, fun _ _ => rfl⟩⟩
          case measure => simp [intOf]; omega
        · have hge : x1 ≤ y1 := by omega
          have hged : decide (x1 ≤ y1) = true := decide_eq_true hge
          go_wp2_with fail
          go_quiet (fail)
          go_wp2_with fail
          go_ret
          exact ⟨by rw [HS.out.1, decide_eq_false (show ¬ y1 < x1 by omega)]; rfl, HO.out.trans ⟨rfl, rfl, rfl, Nat.le_refl _, fun _ _ => rfl⟩⟩
    · obtain rfl : k = n := by omega
      rw [sortedL_end l _ (by omega)] at hs
      have HO := Lib.hid (And.intro ho hs)
      clear ho hs
      go_wp2_with fail
      go_ret
      exact ⟨by rw [HO.out.2]; rfl, HO.out.1⟩
set_option maxHeartbeats 2000000 in
theorem rsorted_any (A : Option Addr) (n c : Nat) (l : List Sam) (w : World) (hl : Comes w 2 encS okS A n c l) :
    Calls Tryd.prog 19 #[.slice A n c] w fun e w' => e = .returned (.bool (sortedL l)) ∧ Below w.heap.size w w' := by
  have HL := Lib.hid hl
  have hcap : c ≤ 9223372036854775807 := hl.cap
  have hle := hl.le
  clear hl
  go_enter Tryd.func19, Tryd.ntmps19
  go_wp2_with fail
  go_loopw [3] (fun v3 wr => ∃ p : Nat, p ≤ n ∧ v3 = .int .i64 ((p : Int) + 1) ∧ sortedL l = sortedL (l.drop p) ∧ Below w.heap.size w wr) (fun v3 _ => n + 1 - (intOf v3).toNat)
  case atStart => exact ⟨0, Nat.zero_le _, rfl, rfl, Below.refl _ _⟩
  case round =>
    obtain ⟨p, hp, rfl, hs, ho⟩ := hrel
    have hln := HL.out.len
    by_cases hlt : p + 1 < n
    · obtain ⟨k, hk⟩ : ∃ k, p + 1 = k := ⟨_, rfl⟩
      have hki : (p : Int) + 1 = (k : Int) := by omega
      obtain ⟨b, o, rfl, hcs⟩ := S_cells HL.out.lies (show k < l.length by omega)
      obtain ⟨hc0, hc1⟩ := hcs _ ho
      have HO := Lib.hid ho
      obtain ⟨b2, o2, hA2, hcs2⟩ := S_cells HL.out.lies (show p < l.length by omega)
      obtain ⟨rfl, rfl⟩ : b = b2 ∧ o = o2 := by injection hA2 with hA2; injection hA2 with e1 e2; exact ⟨e1, e2⟩
      obtain ⟨hd0, hd1⟩ := hcs2 _ ho
      rw [sortedL_at2 l p k hk.symm (by omega) (by omega)] at hs
      generalize l[p]'(by omega) = y at *
      generalize l[k]'(by omega) = x at *
      obtain ⟨x1, x2⟩ := x
      obtain ⟨y1, y2⟩ := y
      simp only [] at hc0 hd0 hs
      rw [hki]
      have HS := Lib.hid (And.intro hs (And.intro hk hki))
      have i1 : (k : Int) < (n : Int) := by omega
      have i0 : (0 : Int) ≤ (k : Int) := by omega
      have i3 : (0 : Int) ≤ (p : Int) := by omega
      have i4 : (p : Int) < (n : Int) := by omega
      have i2 : IntKind.i64.wrap ((k : Int) - 1) = (p : Int) := by rw [show (k : Int) - 1 = (p : Int) by omega]; exact IntWalk.i64_in _ (by omega)
      have i5 : p + 1 ≤ n := by omega
      have i6 : k ≤ n := by omega
      clear ho hln hcs hs hcs2 hA2 hc1 hd1 hk hki
      by_cases hyx : y1 < x1
      · have hge : ¬ x1 ≤ y1 := by omega
        have hged : decide (x1 ≤ y1) = false := decide_eq_false hge
        go_wp2_with fail
        go_quiet (fail)
        go_wp2_with fail
        go_roundw
        case rel => exact ⟨k, i6, rfl, by rw [HS.out.1, decide_eq_true hyx, Bool.true_and], HO.out.trans ⟨rfl, rfl, rfl, Nat.le_refl _, fun _ _ => rfl⟩⟩
        case measure => simp [intOf]; omega
      · have hge : x1 ≤ y1 := by omega
        have hged : decide (x1 ≤ y1) = true := decide_eq_true hge
        go_wp2_with fail
        go_quiet (fail)
        go_wp2_with fail
        go_ret
        exact ⟨by rw [HS.out.1, decide_eq_false (show ¬ y1 < x1 by omega)]; rfl, HO.out.trans ⟨rfl, rfl, rfl, Nat.le_refl _, fun _ _ => rfl⟩⟩
    · rw [sortedL_end l _ (by omega)] at hs
      have HO := Lib.hid (And.intro ho hs)
      have hnlt : ¬ ((p : Int) + 1 < (n : Int)) := by omega
      clear ho hs hln
      go_wp2_with fail
      go_ret
      exact ⟨by rw [HO.out.2]; rfl, HO.out.1⟩
end Go.Proofs.YtdidengokijcjaaDoor.LabW
/-
  EQUALITY OF STRUCTS OF ONE-CELL FIELDS, AS RUN EQUATIONS.
-/
namespace Go.Proofs.YtdidengokijcjaaDoor.LabW
open Go.RowKit
def sameS (x1 y1 : Int) (x2 y2 : Int) : Bool := (x1 == y1) && (x2 == y2)
set_option maxRecDepth 100000 in
theorem equal_S (x1 y1 : Int) (x2 y2 : Int) (w : World) : (Op.equalIn 10000 37 (.agg #[.int .i64 x1, .int .u64 x2]) (.agg #[.int .i64 y1, .int .u64 y2])).run Tryd.prog w = .ok (sameS x1 y1 x2 y2) w := by
  have ht : Tryd.prog.underlying 37 = some (.struct (Tryd.prog.fieldsOf 37)) := by kernel_rfl
  have hp : Tryd.prog.stoodInHeld 37 = false := by kernel_rfl
  rw [run_equalIn_agg _ _ _ _ _ ht hp]
  unfold Program.fieldsOf sameS
  rw [Tryd.underlying37]
  clear ht hp
  have e0 := fun d a b => run_equalIn_int (P := Tryd.prog) w d 2 .i64 .i64 a b Tryd.underlying2
  have e1 := fun d a b => run_equalIn_int (P := Tryd.prog) w d 35 .u64 .u64 a b Tryd.underlying35
  simp (decide := true) only [Op.eqFields, Sem.run_ite, Sem.run_bind, Sem.run_pure, part, Tryd.isAgg2, Tryd.isAgg35, Result.andThen_ok, if_false, if_true, show (#[.int .i64 x1, .int .u64 x2] : Array Value)[0]? = some (.int .i64 x1) from rfl, show (#[.int .i64 x1, .int .u64 x2] : Array Value)[1]? = some (.int .u64 x2) from rfl, show (#[.int .i64 y1, .int .u64 y2] : Array Value)[0]? = some (.int .i64 y1) from rfl, show (#[.int .i64 y1, .int .u64 y2] : Array Value)[1]? = some (.int .u64 y2) from rfl, e0 9998, e1 9998]
  cases (x1 == y1) <;> cases (x2 == y2) <;> rfl
theorem neq_S (x1 y1 : Int) (x2 y2 : Int) : ∀ w, (binOp .neq 37 (.agg #[.int .i64 x1, .int .u64 x2]) (.agg #[.int .i64 y1, .int .u64 y2])).run Tryd.prog w = .ok (.bool (!sameS x1 y1 x2 y2)) w := fun w => by
  rw [run_neq_struct, equal_S]; rfl
theorem eql_S (x1 y1 : Int) (x2 y2 : Int) : ∀ w, (binOp .eql 37 (.agg #[.int .i64 x1, .int .u64 x2]) (.agg #[.int .i64 y1, .int .u64 y2])).run Tryd.prog w = .ok (.bool (sameS x1 y1 x2 y2)) w := fun w => by
  rw [run_eql_struct, equal_S]; rfl
theorem guard_S : Tryd.prog.eqGuardType Tryd.prog.depth 37 = false := by kernel_rfl
def sameL (x1 y1 : ByteArray) (x2 y2 : ByteArray) : Bool := (x1.toList == y1.toList) && (x2.toList == y2.toList)
def sameM (x1 y1 : Int) (x2 y2 : ByteArray) (x3 y3 : ByteArray) : Bool := (x1 == y1) && (x2.toList == y2.toList) && (x3.toList == y3.toList)
end Go.Proofs.YtdidengokijcjaaDoor.LabW
/-
  alluviumref07.Between, Same, Row: THE WALKS.
-/
namespace Go.Proofs.YtdidengokijcjaaDoor.LabW
open Go.RowKit Go.Shelf LabM
set_option maxRecDepth 20000 in
set_option maxHeartbeats 2000000 in
theorem rsame_any (A : Option Addr) (n c : Nat) (l : List Sam) (A2 : Option Addr) (n2 c2 : Nat) (l2 : List Sam) (w : World) (hl : Comes w 2 encS okS A n c l) (hl2 : Comes w 2 encS okS A2 n2 c2 l2) :
    Calls Tryd.prog 12 #[.slice A n c, .slice A2 n2 c2] w fun e w' => e = .returned (.bool (decide (l = l2))) ∧ Below w.heap.size w w' := by
  have HL := Lib.hid hl
  have HL2 := Lib.hid hl2
  have hcap : c ≤ 9223372036854775807 := hl.cap
  have hle := hl.le
  have hcap2 : c2 ≤ 9223372036854775807 := hl2.cap
  have hle2 := hl2.le
  clear hl hl2
  by_cases hnn : n = n2
  · subst hnn
    go_enter Tryd.func12, Tryd.ntmps12
    go_wp2_with fail
    go_loopw [5] (fun v5 wr => ∃ k : Nat, k ≤ n ∧ v5 = .int .i64 k ∧ l.take k = l2.take k ∧ Below w.heap.size w wr) (fun v5 _ => n - (intOf v5).toNat)
    case atStart => exact ⟨0, Nat.zero_le _, rfl, rfl, Below.refl _ _⟩
    case round =>
      obtain ⟨k, hk, rfl, ht, ho⟩ := hrel
      have hln := HL.out.len
      have hln2 := HL2.out.len
      by_cases hlt : k < n
      · have hkl : k < l.length := by omega
        have hkl2 : k < l2.length := by omega
        obtain ⟨b, o, rfl, hcs⟩ := S_cells HL.out.lies hkl
        obtain ⟨b2, o2, rfl, hcs2⟩ := S_cells HL2.out.lies hkl2
        obtain ⟨hc0, hc1⟩ := hcs _ ho
        obtain ⟨hd0, hd1⟩ := hcs2 _ ho
        have hs1 := take_snocL l k hkl
        have hs2 := take_snocL l2 k hkl2
        generalize l[k] = x at *
        generalize l2[k] = y at *
        obtain ⟨x1, x2⟩ := x
        obtain ⟨y1, y2⟩ := y
        simp only [] at hc0 hc1 hd0 hd1
        have HO := Lib.hid ho
        have HT := Lib.hid ht
        rw [← ht] at hs2
        have HS := Lib.hid (And.intro hs1 hs2)
        clear hs1 hs2
        have i0 : (0 : Int) ≤ (k : Int) := by omega
        have i1 : (k : Int) < (n : Int) := by omega
        clear ho hln hcs hcs2 hln2
        have hneq := fun w => equal_S x1 y1 x2 y2 w
        have hgd := guard_S
        by_cases hxy : (x1, x2) = (y1, y2)
        · have hsm : sameS x1 y1 x2 y2 = true := by
            injection hxy with e1 e2; subst e1 e2; unfold sameS; simp
          rw [hsm] at hneq
          have HX := Lib.hid hxy
          clear hxy hsm ht
          go_wp2_with fail
          go_quiet (fail)
          go_wp2_with fail
          go_roundw
          case rel => exact ⟨k + 1, by omega, by go_num, by rw [HS.out.1, HS.out.2, HT.out, HX.out], HO.out.trans ⟨rfl, rfl, rfl, Nat.le_refl _, fun _ _ => rfl⟩⟩
          case measure => simp [intOf]; omega
        · have hsm : sameS x1 y1 x2 y2 = false := by
            cases h : sameS x1 y1 x2 y2 with
            | false => rfl
            | true =>
              unfold sameS at h
              simp at h
              exact absurd (by rw [h.1, h.2]) hxy
          rw [hsm] at hneq
          have hno : l ≠ l2 := by
            intro e
            have h1 := HS.out.1; have h2 := HS.out.2
            rw [e] at h1
            rw [h1, ht] at h2
            have := List.append_cancel_left h2
            simp at this
            exact hxy (by rw [this.1, this.2])
          have HX := Lib.hid hno
          clear hxy hsm hno ht
          go_wp2_with fail
          go_quiet (fail)
          go_wp2_with fail
          go_ret
          exact ⟨by rw [decide_eq_false HX.out]; rfl, HO.out.trans ⟨rfl, rfl, rfl, Nat.le_refl _, fun _ _ => rfl⟩⟩
      · obtain rfl : k = n := by omega
        rw [List.take_of_length_le (by omega), List.take_of_length_le (by omega)] at ht
        have HO := Lib.hid (And.intro ho ht)
        clear ho ht hln hln2
        go_wp2_with fail
        go_ret
        exact ⟨by rw [decide_eq_true HO.out.2]; rfl, HO.out.1⟩
  · have hno : l ≠ l2 := by
      intro e; apply hnn; rw [← HL.out.len, ← HL2.out.len, e]
    have HX := Lib.hid hno
    have hni : ¬ ((n : Int) = (n2 : Int)) := by omega
    have hne2 : ((n : Int) != (n2 : Int)) = true := by simpa using hni
    clear hni
    clear hno hnn
    go_enter Tryd.func12, Tryd.ntmps12
    go_wp2_with fail
    go_ret
    exact ⟨by rw [decide_eq_false HX.out]; rfl, Below.refl _ _⟩
end Go.Proofs.YtdidengokijcjaaDoor.LabW
/-
  chunk.putWide: THE WALK.
-/
namespace Go.Proofs.YtdidengokijcjaaDoor.ChW
set_option linter.unusedVariables false
open Go.RowKit FrM FrW StM ChM LabW
theorem ok_of {x : Sm} (h : okS x) : ChM.okM x := ⟨⟨h.1, h.2.1⟩, h.2.2.1, h.2.2.2⟩
theorem u64_wr (x : Int) : IntKind.u64.wrap x = ((u64 x : Nat) : Int) := by rw [IntKind.wrap_u64, u64_cast]
theorem wS_at (l : List Sm) (k : Nat) (h : k < l.length) : wS (l.drop k) = wide (u64 l[k].1) ++ wide l[k].2.toNat ++ wS (l.drop (k + 1)) := by
  rw [List.drop_eq_getElem_cons h, wS]
set_option maxRecDepth 20000 in
set_option maxHeartbeats 4000000 in
theorem putWide_any (w0 w : World) (b : Nat) (A : Option Addr) (n c : Nat) (l : List Sm) (hl : Comes w0 2 encS okS A n c l) (hn : n ≤ 1000) (h0 : Below w0.heap.size w0 w) (hbd : Bd w0.heap.size b [] w) :
    Calls Tryd.prog 36 #[.pointer (some ⟨b, 0, none⟩), .slice A n c] w fun e w' => e = .returned (.tuple #[]) ∧ Bd w0.heap.size b (wide l.length ++ wS l) w' ∧ Below w0.heap.size w0 w' := by
  have HL := Lib.hid hl
  have hcap : c ≤ 9223372036854775807 := hl.cap
  have hle := hl.le
  obtain ⟨S, hS⟩ : ∃ S, wide l.length ++ wS l = S := ⟨_, rfl⟩
  rw [hS]
  have HK := Lib.hid hS
  have hwl := wide_len l.length
  have CN : Hid (∀ W : World, Calls Tryd.prog 51 #[.int .u64 (n : Int)] W fun e w' => e = .returned (.string (bs (wide l.length))) ∧ Below W.heap.size W w') := Lib.hid (fun W => by rw [hl.len]; exact wide_any n W (by omega))
  have CW0 := Lib.hid (fun (W : World) (hb : Below w.heap.size w W) => writes_any w0.heap.size b [] (wide l.length) W (hbd.later hb) (by rw [hwl]; decide) (Nat.le_trans h0.size hb.size))
  have H0 := Lib.hid h0
  obtain ⟨M, hM⟩ : ∃ M, bs (wide l.length) = M := ⟨_, rfl⟩
  obtain ⟨pre, hpre⟩ : ∃ p, wide l.length = p := ⟨_, rfl⟩
  rw [hM] at CN CW0
  rw [hpre] at CW0 HK hwl
  clear hl hS hM hpre hbd h0
  go_enter Tryd.func36, Tryd.ntmps36
  go_wp2_with fail
  refine (CN.out _).mono ?_
  rintro e w1 ⟨rfl, hb1⟩
  have HB1 := Lib.hid hb1
  clear hb1 CN
  go_wp2_with fail
  refine (CW0.out _ HB1.out).mono ?_
  rintro e w2 ⟨rfl, hbd2, hb2, hk2⟩
  rw [List.nil_append] at hbd2
  have H2 := Lib.hid (And.intro hbd2 ((H0.out.trans (HB1.out.mono H0.out.size)).trans hb2))
  clear hbd2 hb2 hk2 CW0
  go_wp2_with fail
  go_loopw [14] (fun v14 wr => ∃ (k : Nat) (acc : List UInt8), k ≤ n ∧ v14 = .int .i64 k ∧ acc.length = 8 + k * 16 ∧ S = acc ++ wS (l.drop k) ∧ Bd w0.heap.size b acc wr ∧ Below w0.heap.size w0 wr) (fun v14 _ => n - (intOf v14).toNat)
  case atStart => exact ⟨0, pre, Nat.zero_le _, rfl, hwl, HK.out.symm, H2.out.1, H2.out.2⟩
  case round =>
    clear H2 HB1
    obtain ⟨k, acc, hk, rfl, hal, hacc, hbd, ho⟩ := hrel
    have hln := HL.out.len
    by_cases hlt : k < n
    · have hkl : k < l.length := by omega
      obtain ⟨q, o, rfl, hcs⟩ := S_cells HL.out.lies hkl
      obtain ⟨hc0, hc1⟩ := hcs _ ho
      have hok := HL.out.ok _ (List.getElem_mem hkl)
      rw [wS_at l k hkl] at hacc
      generalize l[k] = x at *
      obtain ⟨x1, x2⟩ := x
      obtain ⟨hx1, hx2, hx3, hx4⟩ := hok
      simp only [] at hc0 hc1 hacc hx1 hx2 hx3 hx4
      obtain ⟨v2, rfl⟩ : ∃ v : Nat, x2 = (v : Int) := ⟨x2.toNat, by omega⟩
      rw [Int.toNat_natCast] at hacc
      obtain ⟨m1, hm1⟩ : ∃ m, wide (u64 x1) = m := ⟨_, rfl⟩
      obtain ⟨m2, hm2⟩ : ∃ m, wide v2 = m := ⟨_, rfl⟩
      have hz1 : m1.length = 8 := by rw [← hm1]; exact wide_len _
      have hz2 : m2.length = 8 := by rw [← hm2]; exact wide_len _
      have C1 : Hid (∀ W : World, Calls Tryd.prog 51 #[.int .u64 ((u64 x1 : Nat) : Int)] W fun e w' => e = .returned (.string (bs m1)) ∧ Below W.heap.size W w') := Lib.hid (fun W => by rw [← hm1]; exact wide_any (u64 x1) W (u64_lt _))
      have C2 : Hid (∀ W : World, Calls Tryd.prog 51 #[.int .u64 (v2 : Int)] W fun e w' => e = .returned (.string (bs m2)) ∧ Below W.heap.size W w') := Lib.hid (fun W => by rw [← hm2]; exact wide_any v2 W (by omega))
      rw [hm1, hm2] at hacc
      have CW : Hid (∀ W : World, Bd w0.heap.size b acc W → w0.heap.size ≤ W.heap.size → Calls Tryd.prog 50 #[.pointer (some ⟨b, 0, none⟩), .string (bs m1 ++ bs m2)] W fun e w' => e = .returned (.tuple #[.int .i64 ((m1 ++ m2).length : Int), .nilIface]) ∧ Bd w0.heap.size b (acc ++ (m1 ++ m2)) w' ∧ Below w0.heap.size W w' ∧ Keeps b W w') := Lib.hid (fun W hb hz => by
        rw [bs_append]; exact writes_any _ _ acc (m1 ++ m2) W hb (by rw [List.length_append]; omega) hz)
      have hg0 : b < wr.heap.size := hbd.lt
      have ho0 : Below w0.heap.size w0 (wr.alloc (.cells #[.int .i64 x1, .int .u64 (v2 : Int)] 37 (0, 0))) := ho.alloc ho.size _
      have hbd0 : Bd w0.heap.size b acc (wr.alloc (.cells #[.int .i64 x1, .int .u64 (v2 : Int)] 37 (0, 0))) := hbd.later ((Below.refl _ _).alloc (Nat.le_refl _) _)
      have hx0 : (wr.alloc (.cells #[.int .i64 x1, .int .u64 (v2 : Int)] 37 (0, 0))).heap[wr.heap.size]? = some (.cells #[.int .i64 x1, .int .u64 (v2 : Int)] 37 (0, 0)) := heap_alloc_new wr _
      have HF := Lib.hid (And.intro hacc (And.intro hal (And.intro hz1 hz2)))
      have hzb1 : (bs m1).size ≤ 8 := by rw [bs_size, hz1]; exact Nat.le_refl _
      have hzb2 : (bs m2).size ≤ 8 := by rw [bs_size, hz2]; exact Nat.le_refl _
      obtain ⟨M1, hM1⟩ : ∃ M, bs m1 = M := ⟨_, rfl⟩
      obtain ⟨M2, hM2⟩ : ∃ M, bs m2 = M := ⟨_, rfl⟩
      rw [hM1] at hzb1 C1 CW
      rw [hM2] at hzb2 C2 CW
      have hadd : ∀ W : World, (Op.stringOp .add M1 M2).run Tryd.prog W = .ok (.string (M1 ++ M2)) W := fun W => run_string_add_sum W M1 M2 (by omega)
      have hwr := u64_wr x1
      obtain ⟨V1, hV1⟩ : ∃ V, u64 x1 = V := ⟨_, rfl⟩
      rw [hV1] at hwr C1
      have K0 : (Below w0.heap.size w0 (wr.alloc (.cells #[.int .i64 x1, .int .u64 (v2 : Int)] 37 (0, 0))) ∧ (wr.alloc (.cells #[.int .i64 x1, .int .u64 (v2 : Int)] 37 (0, 0))).heap[wr.heap.size]? = some (.cells #[.int .i64 x1, .int .u64 (v2 : Int)] 37 (0, 0))) ∧ (wr.alloc (.cells #[.int .i64 x1, .int .u64 (v2 : Int)] 37 (0, 0))).cell? ⟨wr.heap.size, 0, none⟩ = some (.int .i64 x1) ∧ (wr.alloc (.cells #[.int .i64 x1, .int .u64 (v2 : Int)] 37 (0, 0))).cell? ⟨wr.heap.size, 1, none⟩ = some (.int .u64 (v2 : Int)) :=
        ⟨⟨ho0, hx0⟩, by rw [cell_of_row _ _ _ _ _ _ hx0]; rfl, by rw [cell_of_row _ _ _ _ _ _ hx0]; rfl⟩
      have K1 := Lib.hid (fun (W W' : World) (h : Below w0.heap.size w0 W ∧ W.heap[wr.heap.size]? = some (.cells #[.int .i64 x1, .int .u64 (v2 : Int)] 37 (0, 0))) (hb : Below w0.heap.size W W') (hk : Keeps b W W') =>
        (have hx := hk _ _ _ (by omega) (by decide) h.2; ⟨⟨h.1.trans hb, hx⟩, by rw [cell_of_row _ _ _ _ _ _ hx]; rfl, by rw [cell_of_row _ _ _ _ _ _ hx]; rfl⟩ :
          (Below w0.heap.size w0 W' ∧ W'.heap[wr.heap.size]? = some (.cells #[.int .i64 x1, .int .u64 (v2 : Int)] 37 (0, 0))) ∧ W'.cell? ⟨wr.heap.size, 0, none⟩ = some (.int .i64 x1) ∧ W'.cell? ⟨wr.heap.size, 1, none⟩ = some (.int .u64 (v2 : Int))))
      have KT := Lib.hid (fun (W W' : World) (h : Below w0.heap.size w0 W ∧ W.heap[wr.heap.size]? = some (.cells #[.int .i64 x1, .int .u64 (v2 : Int)] 37 (0, 0))) (hb : Below W.heap.size W W') => K1.out W W' h (hb.mono h.1.size) (Keeps.of_below hb))
      have KB := Lib.hid (fun (W W' : World) (hb : Below (wr.alloc (.cells #[.int .i64 x1, .int .u64 (v2 : Int)] 37 (0, 0))).heap.size (wr.alloc (.cells #[.int .i64 x1, .int .u64 (v2 : Int)] 37 (0, 0))) W) (hb2 : Below W.heap.size W W') => (hbd0.later hb).later hb2)
      clear ho hln hcs hbd hacc hm1 hm2 hal hz1 hz2 hx1 hx2 hx3 hx4 hM1 hM2 ho0 hbd0 hV1
      clear hx0
      go_wp2_with fail
      clear hc0 hc1
      generalize (wr.alloc (.cells #[.int .i64 x1, .int .u64 (v2 : Int)] 37 (0, 0))) = W0 at *
      go_region_held3 (fun W : World => (Below w0.heap.size w0 W ∧ W.heap[wr.heap.size]? = some (.cells #[.int .i64 x1, .int .u64 (v2 : Int)] 37 (0, 0))) ∧ W.cell? ⟨wr.heap.size, 0, none⟩ = some (.int .i64 x1) ∧ W.cell? ⟨wr.heap.size, 1, none⟩ = some (.int .u64 (v2 : Int)))
        (first | exact K0 | exact KT.out _ _ (And.left K0) (below_self_drew _) | exact KT.out _ _ (And.left (by assumption)) (by assumption) | exact K1.out _ _ (And.left (by assumption)) (by assumption) (by assumption))
        (first
          | (go_at_call 51; (with_reducible refine (C1.out _).mono ?_); rintro e w5 ⟨rfl, hb5⟩)
          | (go_at_call 51; (with_reducible refine (C2.out _).mono ?_); rintro e w6 ⟨rfl, hb6⟩)
          | (go_at_call 50; refine (CW.out _ (KB.out _ _ (below_draw hb5) hb6) (Nat.le_trans K0.1.1.size (Nat.le_trans hb5.size hb6.size))).mono ?_; rintro e w7 ⟨rfl, hbd7, hb7, hk7⟩))
      rename_i hh
      have HH := Lib.hid (And.intro hh.1.1 hbd7)
      clear hh hbd7 hb7 hk7 hb5 hb6 K0 K1 KT KB C1 C2 CW hadd hzb1 hzb2 hwr
      go_wp2_with fail
      go_roundw
      case rel => exact ⟨k + 1, acc ++ (m1 ++ m2), by omega, by go_num, by have := HF.out; rw [List.length_append, List.length_append]; omega, by rw [HF.out.1]; simp, HH.out.2, HH.out.1⟩
      case measure => simp [intOf]; omega
    · have hkn : k = n := by omega
      subst hkn
      rw [List.drop_of_length_le (by omega)] at hacc
      have hS : S = acc := by rw [hacc]; simp [wS]
      subst hS
      have HH := Lib.hid (And.intro ho hbd)
      clear ho hbd hacc
      go_wp2_with fail
      go_end0
      exact ⟨rfl, HH.out.2, HH.out.1⟩
end Go.Proofs.YtdidengokijcjaaDoor.ChW
/-
  chunk.putSmall: THE WALK.
-/
namespace Go.Proofs.YtdidengokijcjaaDoor.ChW
set_option linter.unusedVariables false
open Go.RowKit FrM FrW StM ChM LabW
theorem sS_at (l : List Sm) (k : Nat) (t : Int) (h : k < l.length) : sS t (l.drop k) = small (zig (wrap64 (l[k].1 - t))) ++ wide l[k].2.toNat ++ sS l[k].1 (l.drop (k + 1)) := by
  rw [List.drop_eq_getElem_cons h, sS]
theorem i64_wr (x : Int) : IntKind.i64.wrap x = wrap64 x := by rw [IntKind.wrap_i64]; unfold wrap64; rfl
set_option maxRecDepth 20000 in
set_option maxHeartbeats 4000000 in
theorem putSmall_any (w0 w : World) (b : Nat) (A : Option Addr) (n c : Nat) (l : List Sm) (hl : Comes w0 2 encS okS A n c l) (hn : n ≤ 1000) (h0 : Below w0.heap.size w0 w) (hbd : Bd w0.heap.size b [] w) :
    Calls Tryd.prog 38 #[.pointer (some ⟨b, 0, none⟩), .slice A n c] w fun e w' => e = .returned (.tuple #[]) ∧ Bd w0.heap.size b (small l.length ++ sS 0 l) w' ∧ Below w0.heap.size w0 w' := by
  have HL := Lib.hid hl
  have hcap : c ≤ 9223372036854775807 := hl.cap
  have hle := hl.le
  obtain ⟨S, hS⟩ : ∃ S, small l.length ++ sS 0 l = S := ⟨_, rfl⟩
  rw [hS]
  have HK := Lib.hid hS
  have hwl : (small l.length).length ≤ 10 := sm_len 9 l.length
  have CN : Hid (∀ W : World, Calls Tryd.prog 55 #[.int .u64 (n : Int)] W fun e w' => e = .returned (.string (bs (small l.length))) ∧ Below W.heap.size W w') := Lib.hid (fun W => by rw [hl.len]; exact small_any n W (by omega))
  have CW0 := Lib.hid (fun (W : World) (hb : Below w.heap.size w W) => writes_any w0.heap.size b [] (small l.length) W (hbd.later hb) (by rw [List.length_nil]; omega) (Nat.le_trans h0.size hb.size))
  have H0 := Lib.hid h0
  obtain ⟨M, hM⟩ : ∃ M, bs (small l.length) = M := ⟨_, rfl⟩
  obtain ⟨pre, hpre⟩ : ∃ p, small l.length = p := ⟨_, rfl⟩
  rw [hM] at CN CW0
  rw [hpre] at CW0 HK hwl
  clear hl hS hM hpre hbd h0
  go_enter Tryd.func38, Tryd.ntmps38
  go_wp2_with fail
  refine (CN.out _).mono ?_
  rintro e w1 ⟨rfl, hb1⟩
  have HB1 := Lib.hid hb1
  clear hb1 CN
  go_wp2_with fail
  refine (CW0.out _ HB1.out).mono ?_
  rintro e w2 ⟨rfl, hbd2, hb2, hk2⟩
  rw [List.nil_append] at hbd2
  have H2 := Lib.hid (And.intro hbd2 ((H0.out.trans (HB1.out.mono H0.out.size)).trans hb2))
  clear hbd2 hb2 hk2 CW0
  go_wp2_with fail
  go_loopw [4, 15] (fun v4 v14 wr => ∃ (k : Nat) (acc : List UInt8) (t : Int), k ≤ n ∧ v14 = .int .i64 k ∧ v4 = .int .i64 t ∧ acc.length ≤ 10 + k * 18 ∧ S = acc ++ sS t (l.drop k) ∧ Bd w0.heap.size b acc wr ∧ Below w0.heap.size w0 wr) (fun _ v14 _ => n - (intOf v14).toNat)
  case atStart => exact ⟨0, pre, 0, Nat.zero_le _, rfl, rfl, hwl, HK.out.symm, H2.out.1, H2.out.2⟩
  case round =>
    clear H2 HB1
    obtain ⟨k, acc, t, hk, rfl, rfl, hal, hacc, hbd, ho⟩ := hrel
    have hln := HL.out.len
    by_cases hlt : k < n
    · have hkl : k < l.length := by omega
      obtain ⟨q, o, rfl, hcs⟩ := S_cells HL.out.lies hkl
      obtain ⟨hc0, hc1⟩ := hcs _ ho
      have hok := HL.out.ok _ (List.getElem_mem hkl)
      rw [sS_at l k t hkl] at hacc
      generalize l[k] = x at *
      obtain ⟨x1, x2⟩ := x
      obtain ⟨hx1, hx2, hx3, hx4⟩ := hok
      simp only [] at hc0 hc1 hacc hx1 hx2 hx3 hx4
      obtain ⟨v2, rfl⟩ : ∃ v : Nat, x2 = (v : Int) := ⟨x2.toNat, by omega⟩
      rw [Int.toNat_natCast] at hacc
      obtain ⟨d, hd⟩ : ∃ d, wrap64 (x1 - t) = d := ⟨_, rfl⟩
      have hdo : okI d := by rw [← hd]; exact okI_wrap _
      have hzl := zig_lt hdo
      rw [hd] at hacc
      obtain ⟨m1, hm1⟩ : ∃ m, small (zig d) = m := ⟨_, rfl⟩
      obtain ⟨m2, hm2⟩ : ∃ m, wide v2 = m := ⟨_, rfl⟩
      have hz1 : m1.length ≤ 10 := by rw [← hm1]; exact sm_len 9 _
      have hz2 : m2.length = 8 := by rw [← hm2]; exact wide_len _
      have C0 : Hid (∀ W : World, Calls Tryd.prog 56 #[.int .i64 d] W fun e w' => e = .returned (.int .u64 ((zig d : Nat) : Int)) ∧ W = w') := Lib.hid (fun W => zig_any d W hdo)
      have C1 : Hid (∀ W : World, Calls Tryd.prog 55 #[.int .u64 ((zig d : Nat) : Int)] W fun e w' => e = .returned (.string (bs m1)) ∧ Below W.heap.size W w') := Lib.hid (fun W => by rw [← hm1]; exact small_any (zig d) W hzl)
      have C2 : Hid (∀ W : World, Calls Tryd.prog 51 #[.int .u64 (v2 : Int)] W fun e w' => e = .returned (.string (bs m2)) ∧ Below W.heap.size W w') := Lib.hid (fun W => by rw [← hm2]; exact wide_any v2 W (by omega))
      rw [hm1, hm2] at hacc
      have CW : Hid (∀ W : World, Bd w0.heap.size b acc W → w0.heap.size ≤ W.heap.size → Calls Tryd.prog 50 #[.pointer (some ⟨b, 0, none⟩), .string (bs m1 ++ bs m2)] W fun e w' => e = .returned (.tuple #[.int .i64 ((m1 ++ m2).length : Int), .nilIface]) ∧ Bd w0.heap.size b (acc ++ (m1 ++ m2)) w' ∧ Below w0.heap.size W w' ∧ Keeps b W w') := Lib.hid (fun W hb hz => by
        rw [bs_append]; exact writes_any _ _ acc (m1 ++ m2) W hb (by rw [List.length_append]; omega) hz)
      have hg0 : b < wr.heap.size := hbd.lt
      have ho0 : Below w0.heap.size w0 (wr.alloc (.cells #[.int .i64 x1, .int .u64 (v2 : Int)] 37 (0, 0))) := ho.alloc ho.size _
      have hbd0 : Bd w0.heap.size b acc (wr.alloc (.cells #[.int .i64 x1, .int .u64 (v2 : Int)] 37 (0, 0))) := hbd.later ((Below.refl _ _).alloc (Nat.le_refl _) _)
      have hx0 : (wr.alloc (.cells #[.int .i64 x1, .int .u64 (v2 : Int)] 37 (0, 0))).heap[wr.heap.size]? = some (.cells #[.int .i64 x1, .int .u64 (v2 : Int)] 37 (0, 0)) := heap_alloc_new wr _
      have HF := Lib.hid (And.intro hacc (And.intro hal (And.intro hz1 hz2)))
      have hzb1 : (bs m1).size ≤ 10 := by rw [bs_size]; exact hz1
      have hzb2 : (bs m2).size ≤ 8 := by rw [bs_size, hz2]; exact Nat.le_refl _
      obtain ⟨M1, hM1⟩ : ∃ M, bs m1 = M := ⟨_, rfl⟩
      obtain ⟨M2, hM2⟩ : ∃ M, bs m2 = M := ⟨_, rfl⟩
      rw [hM1] at hzb1 C1 CW
      rw [hM2] at hzb2 C2 CW
      have hadd : ∀ W : World, (Op.stringOp .add M1 M2).run Tryd.prog W = .ok (.string (M1 ++ M2)) W := fun W => run_string_add_sum W M1 M2 (by omega)
      have hwr : IntKind.i64.wrap (x1 - t) = d := by rw [i64_wr]; exact hd
      obtain ⟨V1, hV1⟩ : ∃ V, zig d = V := ⟨_, rfl⟩
      rw [hV1] at C0 C1
      have K0 : (Below w0.heap.size w0 (wr.alloc (.cells #[.int .i64 x1, .int .u64 (v2 : Int)] 37 (0, 0))) ∧ (wr.alloc (.cells #[.int .i64 x1, .int .u64 (v2 : Int)] 37 (0, 0))).heap[wr.heap.size]? = some (.cells #[.int .i64 x1, .int .u64 (v2 : Int)] 37 (0, 0))) ∧ (wr.alloc (.cells #[.int .i64 x1, .int .u64 (v2 : Int)] 37 (0, 0))).cell? ⟨wr.heap.size, 0, none⟩ = some (.int .i64 x1) ∧ (wr.alloc (.cells #[.int .i64 x1, .int .u64 (v2 : Int)] 37 (0, 0))).cell? ⟨wr.heap.size, 1, none⟩ = some (.int .u64 (v2 : Int)) :=
        ⟨⟨ho0, hx0⟩, by rw [cell_of_row _ _ _ _ _ _ hx0]; rfl, by rw [cell_of_row _ _ _ _ _ _ hx0]; rfl⟩
      have K1 := Lib.hid (fun (W W' : World) (h : Below w0.heap.size w0 W ∧ W.heap[wr.heap.size]? = some (.cells #[.int .i64 x1, .int .u64 (v2 : Int)] 37 (0, 0))) (hb : Below w0.heap.size W W') (hk : Keeps b W W') =>
        (have hx := hk _ _ _ (by omega) (by decide) h.2; ⟨⟨h.1.trans hb, hx⟩, by rw [cell_of_row _ _ _ _ _ _ hx]; rfl, by rw [cell_of_row _ _ _ _ _ _ hx]; rfl⟩ :
          (Below w0.heap.size w0 W' ∧ W'.heap[wr.heap.size]? = some (.cells #[.int .i64 x1, .int .u64 (v2 : Int)] 37 (0, 0))) ∧ W'.cell? ⟨wr.heap.size, 0, none⟩ = some (.int .i64 x1) ∧ W'.cell? ⟨wr.heap.size, 1, none⟩ = some (.int .u64 (v2 : Int))))
      have KT := Lib.hid (fun (W W' : World) (h : Below w0.heap.size w0 W ∧ W.heap[wr.heap.size]? = some (.cells #[.int .i64 x1, .int .u64 (v2 : Int)] 37 (0, 0))) (hb : Below W.heap.size W W') => K1.out W W' h (hb.mono h.1.size) (Keeps.of_below hb))
      have KB := Lib.hid (fun (W W' : World) (hb : Below (wr.alloc (.cells #[.int .i64 x1, .int .u64 (v2 : Int)] 37 (0, 0))).heap.size (wr.alloc (.cells #[.int .i64 x1, .int .u64 (v2 : Int)] 37 (0, 0))) W) (hb2 : Below W.heap.size W W') => (hbd0.later hb).later hb2)
      clear ho hln hcs hbd hacc hm1 hm2 hal hz1 hz2 hx1 hx2 hx3 hx4 hM1 hM2 ho0 hbd0 hV1 hd hdo hzl
      clear hx0
      go_wp2_with fail
      clear hc0 hc1
      generalize (wr.alloc (.cells #[.int .i64 x1, .int .u64 (v2 : Int)] 37 (0, 0))) = W0 at *
      go_region_held3 (fun W : World => (Below w0.heap.size w0 W ∧ W.heap[wr.heap.size]? = some (.cells #[.int .i64 x1, .int .u64 (v2 : Int)] 37 (0, 0))) ∧ W.cell? ⟨wr.heap.size, 0, none⟩ = some (.int .i64 x1) ∧ W.cell? ⟨wr.heap.size, 1, none⟩ = some (.int .u64 (v2 : Int)))
        (first | exact K0 | exact KT.out _ _ (And.left K0) (below_self_drew _) | exact KT.out _ _ (And.left (by assumption)) (by assumption) | exact K1.out _ _ (And.left (by assumption)) (by assumption) (by assumption))
        (first
          | (go_at_call 56; (with_reducible refine (C0.out _).mono ?_); rintro e w4 ⟨rfl, rfl⟩)
          | (go_at_call 55; (with_reducible refine (C1.out _).mono ?_); rintro e w5 ⟨rfl, hb5⟩)
          | (go_at_call 51; (with_reducible refine (C2.out _).mono ?_); rintro e w6 ⟨rfl, hb6⟩)
          | (go_at_call 50; refine (CW.out _ (KB.out _ _ (below_draw hb5) hb6) (Nat.le_trans K0.1.1.size (Nat.le_trans hb5.size hb6.size))).mono ?_; rintro e w7 ⟨rfl, hbd7, hb7, hk7⟩))
      rename_i hh
      have HH := Lib.hid (And.intro hh.1.1 hbd7)
      have hc7 := hh.2.1
      clear hh hbd7 hb7 hk7 hb5 hb6 K0 K1 KT KB C0 C1 C2 CW hadd hzb1 hzb2 hwr
      go_wp2_with fail
      go_roundw
      case rel => exact ⟨k + 1, acc ++ (m1 ++ m2), x1, by omega, by go_num, rfl, by have := HF.out; rw [List.length_append, List.length_append]; omega, by rw [HF.out.1]; simp, HH.out.2, HH.out.1⟩
      case measure => simp [intOf]; omega
    · have hkn : k = n := by omega
      subst hkn
      rw [List.drop_of_length_le (by omega)] at hacc
      have hS : S = acc := by rw [hacc]; simp [sS]
      subst hS
      have HH := Lib.hid (And.intro ho hbd)
      clear ho hbd hacc
      go_wp2_with fail
      go_end0
      exact ⟨rfl, HH.out.2, HH.out.1⟩
end Go.Proofs.YtdidengokijcjaaDoor.ChW
/-
  THE SHELF LAYINGS OF math/bits AT THIS PROGRAM, IN PLAIN WORDS: written by lay-plain.
-/
namespace Go.Proofs
open Go.Shelf
def Tryd.lays134_ren : Go.Shelf.Ren := ⟨fun | 134 => 99 | 129 => 101 | n => n, fun | 53 => 35 | 3 => 3 | 4 => 4 | 46 => 97 | 5 => 5 | 9 => 9 | n => n, fun | n => n⟩
theorem Tryd.lays134 : Go.Proofs.Lays.n134 Tryd.prog Tryd.lays134_ren := {
  mixed := by kernel_rfl
  f129 := Tryd.func101.trans (congrArg some (by kernel_rfl))
  f134 := Tryd.func99.trans (congrArg some (by kernel_rfl))
  t3 := Tryd.underlying3
  a3 := Tryd.isAgg3
  z3 := Tryd.sizeOf3
  v3 := Tryd.zeroValue3
  t4 := Tryd.underlying4
  a4 := Tryd.isAgg4
  z4 := Tryd.sizeOf4
  v4 := Tryd.zeroValue4
  t5 := Tryd.underlying5
  a5 := Tryd.isAgg5
  z5 := Tryd.sizeOf5
  v5 := Tryd.zeroValue5
  t9 := Tryd.underlying9
  a9 := Tryd.isAgg9
  z9 := Tryd.sizeOf9
  v9 := Tryd.zeroValue9
  t46 := Tryd.underlying97
  a46 := Tryd.isAgg97
  z46 := Tryd.sizeOf97
  v46 := Tryd.zeroValue97
  t53 := Tryd.underlying35
  a53 := Tryd.isAgg35
  z53 := Tryd.sizeOf35
  v53 := Tryd.zeroValue35 }
def Tryd.lays29_ren : Go.Shelf.Ren := ⟨fun | 29 => 100 | n => n, fun | 22 => 35 | 3 => 3 | 4 => 4 | 25 => 97 | 54 => 146 | 0 => 0 | 5 => 5 | n => n, fun | 1 => 0 | n => n⟩
theorem Tryd.lays29 : Go.Proofs.Lays7.n29 Tryd.prog Tryd.lays29_ren := {
  mixed := by kernel_rfl
  f29 := Tryd.func100.trans (congrArg some (by kernel_rfl))
  t0 := Tryd.underlying0
  a0 := Tryd.isAgg0
  z0 := Tryd.sizeOf0
  v0 := Tryd.zeroValue0
  i0 := by kernel_rfl
  t3 := Tryd.underlying3
  a3 := Tryd.isAgg3
  z3 := Tryd.sizeOf3
  v3 := Tryd.zeroValue3
  i3 := by kernel_rfl
  t4 := Tryd.underlying4
  a4 := Tryd.isAgg4
  z4 := Tryd.sizeOf4
  v4 := Tryd.zeroValue4
  i4 := by kernel_rfl
  t5 := Tryd.underlying5
  a5 := Tryd.isAgg5
  z5 := Tryd.sizeOf5
  v5 := Tryd.zeroValue5
  i5 := by kernel_rfl
  t22 := Tryd.underlying35
  a22 := Tryd.isAgg35
  z22 := Tryd.sizeOf35
  v22 := Tryd.zeroValue35
  i22 := by kernel_rfl
  t25 := Tryd.underlying97
  a25 := Tryd.isAgg97
  z25 := Tryd.sizeOf97
  v25 := Tryd.zeroValue97
  i25 := by kernel_rfl
  t54 := Tryd.underlying146
  a54 := Tryd.isAgg146
  z54 := Tryd.sizeOf146
  g1 := by kernel_rfl }
end Go.Proofs
/-
  math/bits' CONTRACTS OFF THE SHELF, AND bits.Lead, bits.Trail.
-/
namespace Go.Proofs.YtdidengokijcjaaDoor
open Go.Shelf Go.Proofs
/-- math/bits' table lies in the world as the program's text lays it. -/
def Tab (w : World) : Prop := TabAt (Tryd.lays29_ren.g 1) Lib.deBruijn64tab w
theorem lz64 (x : Nat) (w : World) (h1 : x < 18446744073709551616) : Calls Tryd.prog 99 #[.int .u64 x] w fun e w' => e = .returned (.int .i64 (64 - (Lib.bitLen x : Int))) ∧ w' = w :=
  Any.bits_LeadingZeros64 Tryd.lays134 x w (by omega) (by omega)
theorem tz64 (x : Nat) (w : World) (h1 : x < 18446744073709551616) (hT : Tab w) : Calls Tryd.prog 100 #[.int .u64 x] w fun e w' => e = .returned (.int .i64 (Lib.ctz 64 x)) ∧ w' = w :=
  Any7.bits_TrailingZeros64 Tryd.lays29 x h1 w fun _ => hT
theorem lead_any (x : Nat) (w : World) (h1 : x < 18446744073709551616) : Calls Tryd.prog 96 #[.int .u64 x] w fun e w' => e = .returned (.int .i64 (64 - (Lib.bitLen x : Int))) ∧ w = w' := by
  have c := lz64 x w h1
  clear h1
  go_enter Tryd.func96, Tryd.ntmps96
  go_wp2_with (go_at_call 99; refine c.mono ?_; rintro e w' ⟨rfl, rfl⟩)
  go_ret
  exact ⟨rfl, rfl⟩
theorem trail_any (x : Nat) (w : World) (h1 : x < 18446744073709551616) (hT : Tab w) : Calls Tryd.prog 97 #[.int .u64 x] w fun e w' => e = .returned (.int .i64 (Lib.ctz 64 x)) ∧ w = w' := by
  have c := tz64 x w h1 hT
  clear h1 hT
  go_enter Tryd.func97, Tryd.ntmps97
  go_wp2_with (go_at_call 100; refine c.mono ?_; rintro e w' ⟨rfl, rfl⟩)
  go_ret
  exact ⟨rfl, rfl⟩
#print axioms trail_any
end Go.Proofs.YtdidengokijcjaaDoor
