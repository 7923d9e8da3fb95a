/-
  alluviumref03.Wide, Zig: THE WALKS.
  chunk.forms, of: THE WALKS.
  chunk.Put: THE WALK.
-/
import Derived.Test.YtdidengokijcjaaDoorJ24
import Derived.Test.YtdidengokijcjaaDoorJ18
import Derived.Laws.EntriesVeiled
import Derived.Test.YtdidengokijcjaaDoorJ19
import Derived.Test.YtdidengokijcjaaDoorJ14
/-
  alluviumref03.Wide, Zig: THE WALKS.
-/
namespace Go.Proofs.YtdidengokijcjaaDoor.ChW
set_option linter.unusedVariables false
open Go.RowKit FrM FrW StM ChM LabW BitsM BitsW
theorem wdg_end : ∀ (i n : Nat), wdg (i + 1) n = wdg i n ++ [UInt8.ofNat (n / 256 ^ i % 256)]
  | 0, n => by simp [wdg]
  | i + 1, n => by
    rw [show wdg (i + 1 + 1) n = UInt8.ofNat (n % 256) :: wdg (i + 1) (n / 256) from rfl, wdg_end i (n / 256)]
    rw [show wdg (i + 1) n = UInt8.ofNat (n % 256) :: wdg i (n / 256) from rfl, Nat.div_div_eq_div_mul, Nat.pow_succ, Nat.mul_comm]
    rfl
set_option maxRecDepth 20000 in
set_option maxHeartbeats 2000000 in
theorem rwide_any (n : Nat) (w : World) (hn : n < 18446744073709551616) :
    Calls Tryd.prog 21 #[.int .u64 (n : Int)] w fun e w' => e = .returned (.string (bs (wide n))) ∧ Below w.heap.size w w' := by
  have HN := Lib.hid hn
  obtain ⟨S, hS⟩ : ∃ S, wide n = S := ⟨_, rfl⟩
  rw [hS]
  have HS := Lib.hid hS
  clear hS
  go_enter Tryd.func21, Tryd.ntmps21
  go_wp2_with fail
  go_loopw [0, 3, 4] (fun v0 v3 v4 wr => ∃ (i m : Nat) (pre : List UInt8), i ≤ 8 ∧ v4 = .int .i64 i ∧ v0 = .int .u64 m ∧ m < 18446744073709551616 ∧ m = n / 256 ^ i ∧ wdg i n = pre ∧ wr.ownsRow w.heap.size 5 1 v3 i (byteCells pre) ∧ Below w.heap.size w wr) (fun _ _ v4 _ => 8 - (intOf v4).toNat)
  case atStart => exact ⟨0, n, [], by omega, rfl, rfl, HN.out, by rw [Nat.pow_zero, Nat.div_one], rfl, World.ownsRow_nil _ _ _ _, Below.refl _ _⟩
  case round =>
    obtain ⟨i, m, pre, hi, rfl, rfl, hm64, hmn, hpre, hown, hb⟩ := hrel
    have HB := Lib.hid (And.intro hb (And.intro hmn hpre))
    have hbz := hb.size
    clear hb hmn hpre
    by_cases hlt : i < 8
    · have h256 : ((m : Int)) % 256 % 256 = (m : Int) % 256 := by omega
      obtain ⟨y, hy⟩ : ∃ y, UInt8.ofNat (m % 256) = y := ⟨_, rfl⟩
      have hyn : ((y.toNat : Nat) : Int) = (m : Int) % 256 := by rw [← hy, byte_nat _ (by omega)]; omega
      have hw : wdg (i + 1) n = pre ++ [y] := by rw [wdg_end, HB.out.2.2, ← HB.out.2.1, hy]
      have hdiv : (m : Int) / 256 = ((m / 256 : Nat) : Int) := by omega
      have hm2 : m / 256 = n / 256 ^ (i + 1) := by rw [HB.out.2.1, Nat.div_div_eq_div_mul, Nat.pow_succ]
      have hm3 : m / 256 < 18446744073709551616 := by omega
      generalize m / 256 = m2 at hdiv hm2 hm3
      have HR := Lib.hid (And.intro hw (And.intro hm2 hyn))
      clear hy hw hm2 hyn
      go_wp2_with (at_builtin; go_must (refine wpList_append_one rfl _ _ 46 rfl w.heap.size 5 (.int .u8 0) 1 1 Tryd.underlying46 elemU8 rfl (by decide) wr hown rfl _ rfl rfl (one1 rfl) (by omega) (by omega) hbz ?_); intro v' w' hown' hb' hz'; clear hown)
      go_roundw
      case rel =>
        refine ⟨i + 1, m2, pre ++ [y], by omega, by go_num, by first | rfl | (rw [hdiv]), hm3, HR.out.2.1, HR.out.1, ?_, HB.out.1.trans hb'⟩
        rw [byteCells_append]
        have e2 : byteCells [y] = [Value.int .u8 ((m : Int) % 256)] := by simp only [byteCells, List.map_cons, List.map_nil]; rw [HR.out.2.2]
        rw [e2]; exact hown'
      case measure => simp [intOf]; omega
    · obtain rfl : i = 8 := by omega
      have hS : S = pre := by rw [← HS.out]; exact HB.out.2.2
      have hconv : (convert 46 9 _).run Tryd.prog wr = .ok (.string ⟨S.toArray⟩) wr := conv_owned (P := Tryd.prog) (src := 46) (dst := 9) Tryd.underlying46 Tryd.underlying5 Tryd.underlying9 (base := w.heap.size) (n := 8) (by rw [hS]; exact hown)
      clear hS hown
      go_wp2_with fail
      go_ret
      exact ⟨rfl, HB.out.1⟩
set_option maxHeartbeats 1000000 in
theorem rzig_any (x : Int) (w : World) (h : okI x) : Calls Tryd.prog 22 #[.int .i64 x] w fun e w' => e = .returned (.int .u64 (zig x : Nat)) ∧ w = w' := by
  have h1 : -9223372036854775808 ≤ x := h.1
  have h2 : x ≤ 9223372036854775807 := h.2
  by_cases h0 : 0 ≤ x
  · have HZ : Hid (zig x = (2 * x).toNat) := Lib.hid (by unfold zig; rw [if_pos h0])
    have hge : x ≥ 0 := h0
    clear h
    go_enter Tryd.func22, Tryd.ntmps22
    go_wp2
    go_ret
    refine ⟨ret_u64 ?_, rfl⟩
    rw [HZ.out]
    first | omega | (simp only [IntKind.wrap_u64, wrap64] at *; omega)
  · have HZ : Hid (zig x = (-2 * x - 1).toNat) := Lib.hid (by unfold zig; rw [if_neg h0])
    have hge : ¬ x ≥ 0 := h0
    clear h
    go_enter Tryd.func22, Tryd.ntmps22
    go_wp2
    go_ret
    refine ⟨ret_u64 ?_, rfl⟩
    rw [HZ.out]
    first | omega | (simp only [IntKind.wrap_u64, wrap64] at *; omega)
end Go.Proofs.YtdidengokijcjaaDoor.ChW
/-
  chunk.forms, of: THE WALKS.
-/
namespace Go.Proofs.YtdidengokijcjaaDoor.ChW
set_option linter.unusedVariables false
open Go.RowKit FrM FrW StM ChM LabW BitsM BitsW
def pF (g : Nat) : Value := if g = 1 then .func (Fn.func 36) #[] #[] else if g = 2 then .func (Fn.func 38) #[] #[] else if g = 3 then .func (Fn.func 40) #[] #[] else .nilFunc
def gF (g : Nat) : Value := if g = 1 then .func (Fn.func 37) #[] #[] else if g = 2 then .func (Fn.func 39) #[] #[] else if g = 3 then .func (Fn.func 41) #[] #[] else .nilFunc
set_option maxRecDepth 20000 in
set_option maxHeartbeats 1000000 in
theorem forms_any (w : World) : Calls Tryd.prog 29 #[] w fun e w' => e = .returned (.agg #[.nilFunc, .nilFunc, pF 1, gF 1, pF 2, gF 2, pF 3, gF 3]) ∧ Below w.heap.size w w' := by
  go_enter Tryd.func29, Tryd.ntmps29
  go_wp2
  exact bodyPost_ret (v := .agg #[.nilFunc, .nilFunc, pF 1, gF 1, pF 2, gF 2, pF 3, gF 3]) (by simp [results, Tryd.results29, go_sem, pF, gF]) rfl ⟨rfl, (Below.refl _ _).alloc (Nat.le_refl _) _⟩
def ofV (gen : Int) : Value := if 1 ≤ gen ∧ gen ≤ 3 then .tuple #[.agg #[pF gen.toNat, gF gen.toNat], .bool true] else .tuple #[.agg #[.nilFunc, .nilFunc], .bool false]
set_option maxRecDepth 20000 in
set_option maxHeartbeats 1000000 in
theorem of_1 (w : World) : Calls Tryd.prog 16 #[.int .i64 1] w fun e w' => e = .returned (ofV 1) ∧ Below w.heap.size w w' := by
  go_enter Tryd.func16, Tryd.ntmps16
  go_wp2
  exact bodyPost_ret (v := .tuple #[.agg #[pF 1, gF 1], .bool true]) (by simp [results, Tryd.results16, go_sem, pF, gF]) rfl ⟨rfl, (((Below.refl _ _).alloc (Nat.le_refl _) _).alloc (by simp) _).alloc (by simp; omega) _⟩
set_option maxRecDepth 20000 in
set_option maxHeartbeats 1000000 in
theorem of_2 (w : World) : Calls Tryd.prog 16 #[.int .i64 2] w fun e w' => e = .returned (ofV 2) ∧ Below w.heap.size w w' := by
  go_enter Tryd.func16, Tryd.ntmps16
  go_wp2
  exact bodyPost_ret (v := .tuple #[.agg #[pF 2, gF 2], .bool true]) (by simp [results, Tryd.results16, go_sem, pF, gF]) rfl ⟨rfl, (((Below.refl _ _).alloc (Nat.le_refl _) _).alloc (by simp) _).alloc (by simp; omega) _⟩
set_option maxRecDepth 20000 in
set_option maxHeartbeats 1000000 in
theorem of_3 (w : World) : Calls Tryd.prog 16 #[.int .i64 3] w fun e w' => e = .returned (ofV 3) ∧ Below w.heap.size w w' := by
  go_enter Tryd.func16, Tryd.ntmps16
  go_wp2
  exact bodyPost_ret (v := .tuple #[.agg #[pF 3, gF 3], .bool true]) (by simp [results, Tryd.results16, go_sem, pF, gF]) rfl ⟨rfl, (((Below.refl _ _).alloc (Nat.le_refl _) _).alloc (by simp) _).alloc (by simp; omega) _⟩
set_option maxRecDepth 20000 in
set_option maxHeartbeats 1000000 in
theorem of_lo (gen : Int) (h : gen < 1) (w : World) : Calls Tryd.prog 16 #[.int .i64 gen] w fun e w' => e = .returned (.tuple #[.agg #[.nilFunc, .nilFunc], .bool false]) ∧ Below w.heap.size w w' := by
  go_enter Tryd.func16, Tryd.ntmps16
  go_wp2
  exact bodyPost_ret (v := .tuple #[.agg #[.nilFunc, .nilFunc], .bool false]) (by simp [results, Tryd.results16, go_sem]) rfl ⟨rfl, (((Below.refl _ _).alloc (Nat.le_refl _) _).alloc (by simp) _).alloc (by simp; omega) _⟩
set_option maxRecDepth 20000 in
set_option maxHeartbeats 1000000 in
theorem of_hi (gen : Int) (h : 4 ≤ gen) (w : World) : Calls Tryd.prog 16 #[.int .i64 gen] w fun e w' => e = .returned (.tuple #[.agg #[.nilFunc, .nilFunc], .bool false]) ∧ Below w.heap.size w w' := by
  go_enter Tryd.func16, Tryd.ntmps16
  have h1 : ¬ gen < 1 := by omega
  go_wp2
  exact bodyPost_ret (v := .tuple #[.agg #[.nilFunc, .nilFunc], .bool false]) (by simp [results, Tryd.results16, go_sem]) rfl ⟨rfl, (((Below.refl _ _).alloc (Nat.le_refl _) _).alloc (by simp) _).alloc (by simp; omega) _⟩
/-- The form of a generation. -/
theorem of_any (gen : Int) (w : World) : Calls Tryd.prog 16 #[.int .i64 gen] w fun e w' => e = .returned (ofV gen) ∧ Below w.heap.size w w' := by
  rcases (by omega : gen < 1 ∨ 4 ≤ gen ∨ gen = 1 ∨ gen = 2 ∨ gen = 3) with h | h | rfl | rfl | rfl
  · have : ofV gen = .tuple #[.agg #[.nilFunc, .nilFunc], .bool false] := by unfold ofV; rw [if_neg (by omega)]
    rw [this]; exact of_lo gen h w
  · have : ofV gen = .tuple #[.agg #[.nilFunc, .nilFunc], .bool false] := by unfold ofV; rw [if_neg (by omega)]
    rw [this]; exact of_hi gen h w
  · exact of_1 w
  · exact of_2 w
  · exact of_3 w
end Go.Proofs.YtdidengokijcjaaDoor.ChW
/-
  chunk.Put: THE WALK.
-/
namespace Go.Proofs.YtdidengokijcjaaDoor.ChW
set_option linter.unusedVariables false
open Go.RowKit FrM FrW StM ChM LabW BitsM BitsW
theorem sorted_eq : ∀ l : List Sm, LabW.sortedL l = ChM.sorted l
  | [] => rfl
  | [_] => rfl
  | x :: y :: l => by unfold LabW.sortedL ChM.sorted; rw [sorted_eq (y :: l)]
set_option maxRecDepth 20000 in
set_option maxHeartbeats 2000000 in
theorem put_bad1 (gen : Int) (A : Option Addr) (n c : Nat) (w : World) (hof : ofV gen = .tuple #[.agg #[.nilFunc, .nilFunc], .bool false]) :
    Calls Tryd.prog 9 #[.slice A n c, .int .i64 gen] w fun e w' => e = .returned (.tuple #[.string ⟨#[]⟩, .int .i64 1]) ∧ Below w.heap.size w w' := by
  go_enter Tryd.func9, Tryd.ntmps9
  go_wp2_with fail
  refine (of_any gen _).mono ?_
  rintro e w1 ⟨rfl, hb1⟩
  rw [hof]
  have hz := hb1.size
  have HB := Lib.hid hb1
  clear hb1
  go_wp2_with fail
  exact bodyPost_ret (v := .tuple #[.string ⟨#[]⟩, .int .i64 1]) (by simp [results, Tryd.results9, go_sem]) rfl ⟨rfl, HB.out.alloc hz _⟩
set_option maxRecDepth 20000 in
set_option maxHeartbeats 2000000 in
theorem put_bad2 (gen : Int) (k k2 : Nat) (A : Option Addr) (n c : Nat) (l : List Sm) (w : World) (hl : Comes w 2 encS okS A n c l) (hof : ofV gen = .tuple #[.agg #[.func (Fn.func k) #[] #[], .func (Fn.func k2) #[] #[]], .bool true]) (hs : LabW.sortedL l = false) :
    Calls Tryd.prog 9 #[.slice A n c, .int .i64 gen] w fun e w' => e = .returned (.tuple #[.string ⟨#[]⟩, .int .i64 1]) ∧ Below w.heap.size w w' := by
  have HL := Lib.hid hl
  clear hl
  go_enter Tryd.func9, Tryd.ntmps9
  go_wp2_with fail
  refine (of_any gen _).mono ?_
  rintro e w1 ⟨rfl, hb1⟩
  rw [hof]
  have hz := hb1.size
  have HB := Lib.hid hb1
  clear hb1
  go_wp2_with fail
  refine (sorted_any A n c l _ (HL.out.later (HB.out.alloc hz _))).mono ?_
  rintro e w2 ⟨rfl, hb2⟩
  rw [hs]
  replace HB := Lib.hid (later (HB.out.alloc hz _) hb2)
  clear hb2
  go_wp2_with fail
  exact bodyPost_ret (v := .tuple #[.string ⟨#[]⟩, .int .i64 1]) (by simp [results, Tryd.results9, go_sem]) rfl ⟨rfl, HB.out⟩
set_option maxRecDepth 20000 in
set_option maxHeartbeats 2000000 in
theorem put_bad3 (gen : Int) (k k2 : Nat) (A : Option Addr) (n c : Nat) (l : List Sm) (w : World) (hl : Comes w 2 encS okS A n c l) (hof : ofV gen = .tuple #[.agg #[.func (Fn.func k) #[] #[], .func (Fn.func k2) #[] #[]], .bool true]) (hs : LabW.sortedL l = true) (hn : 200 < n) :
    Calls Tryd.prog 9 #[.slice A n c, .int .i64 gen] w fun e w' => e = .returned (.tuple #[.string ⟨#[]⟩, .int .i64 1]) ∧ Below w.heap.size w w' := by
  have HL := Lib.hid hl
  clear hl
  go_enter Tryd.func9, Tryd.ntmps9
  go_wp2_with fail
  refine (of_any gen _).mono ?_
  rintro e w1 ⟨rfl, hb1⟩
  rw [hof]
  have hz := hb1.size
  have HB := Lib.hid hb1
  clear hb1
  go_wp2_with fail
  refine (sorted_any A n c l _ (HL.out.later (HB.out.alloc hz _))).mono ?_
  rintro e w2 ⟨rfl, hb2⟩
  rw [hs]
  replace HB := Lib.hid (later (HB.out.alloc hz _) hb2)
  clear hb2
  go_wp2_with fail
  exact bodyPost_ret (v := .tuple #[.string ⟨#[]⟩, .int .i64 1]) (by simp [results, Tryd.results9, go_sem]) rfl ⟨rfl, HB.out⟩
set_option maxRecDepth 20000 in
set_option maxHeartbeats 2000000 in
theorem put_good (gen : Int) (k k2 : Nat) (F : Txt) (A : Option Addr) (n c : Nat) (l : List Sm) (w : World) (hl : Comes w 2 encS okS A n c l) (hT : Tab w) (hof : ofV gen = .tuple #[.agg #[.func (Fn.func k) #[] #[], .func (Fn.func k2) #[] #[]], .bool true]) (hs : LabW.sortedL l = true) (hn : n ≤ 200) (hk : ∀ (xs : Array Value) (W : World), (callFunc k xs).run Tryd.prog W = .ok (.enter k xs) W) (hF : F.length ≤ 100000)
    (K : ∀ (w0 w : World) (b : Nat), Comes w0 2 encS okS A n c l → Below w0.heap.size w0 w → Bd w0.heap.size b [] w → Tab w0 → Calls Tryd.prog k #[.pointer (some ⟨b, 0, none⟩), .slice A n c] w fun e w' => e = .returned (.tuple #[]) ∧ Bd w0.heap.size b F w' ∧ Below w0.heap.size w0 w') :
    Calls Tryd.prog 9 #[.slice A n c, .int .i64 gen] w fun e w' => e = .returned (.tuple #[.string (bs (F ++ CrcM.ctail F)), .int .i64 0]) ∧ Below w.heap.size w w' := by
  have HL := Lib.hid hl
  have HT := Lib.hid hT
  have HK := Lib.hid K
  clear hl hT K
  go_enter Tryd.func9, Tryd.ntmps9
  go_wp2_with fail
  refine (of_any gen _).mono ?_
  rintro e w1 ⟨rfl, hb1⟩
  rw [hof]
  have hz := hb1.size
  have HB := Lib.hid hb1
  clear hb1
  go_wp2_with fail
  refine (sorted_any A n c l _ (HL.out.later (HB.out.alloc hz _))).mono ?_
  rintro e w2 ⟨rfl, hb2⟩
  rw [hs]
  have hz2 := hb2.size
  have h5 : w2.heap[w1.heap.size]? = some (.cells #[.func (Fn.func k) #[] #[], .func (Fn.func k2) #[] #[]] 42 (0, 0)) := (hb2.block w1.heap.size (by simp)).trans (heap_alloc_new w1 _)
  have h6 : (w2.alloc (.cells #[.pointer none, .slice none 0 0] 48 (0, 0))).cell? ⟨w1.heap.size, 0, none⟩ = some (.func (Fn.func k) #[] #[]) := by
    rw [cell_of_row _ _ _ _ _ _ ((Below.heap_alloc w2 _ _ (Array.getElem?_eq_some_iff.1 h5).1).trans h5)]; rfl
  replace HB := Lib.hid (later (HB.out.alloc hz _) hb2)
  have HBd := Lib.hid (Bd.fresh w2)
  clear hb2 h5 hz2
  go_wp2_with fail
  refine (HK.out w2 _ _ (HL.out.later HB.out) ((Below.refl _ _).alloc (Nat.le_refl _) _) HBd.out (HT.out.later HB.out)).mono ?_
  rintro e w3 ⟨rfl, hbd3, hb3⟩
  have H3 := Lib.hid (And.intro hbd3 hb3)
  have hz3 := hb3.size
  clear hbd3 hb3 h6
  go_wp2_with fail
  refine (bstring_any w2.heap.size w2.heap.size F w3 H3.out.1 hz3).mono ?_
  rintro e w4 ⟨rfl, hb4⟩
  have H4 := Lib.hid (H3.out.2.trans hb4)
  clear hb4
  have hzF := bs_size F
  have hzT : (CrcM.ctail F).length = 4 := CrcM.ctail_length F
  go_wp2_with fail
  have hdF : (⟨(CrcM.ctail (bs F).data.toList).toArray⟩ : ByteArray) = bs (CrcM.ctail F) := by show bs (CrcM.ctail (bs F).data.toList) = _; rw [show (bs F).data.toList = F by simp [bs]]
  refine (CrcW.tail_any (bs F) _ (by unfold maxLen; omega)).mono ?_
  rintro e w5 ⟨rfl, hb5⟩
  rw [hdF]
  have ha : ∀ W : World, (Op.stringOp .add (bs F) (bs (CrcM.ctail F))).run Tryd.prog W = .ok (.string (bs (F ++ CrcM.ctail F))) W := fun W => by rw [← bs_append]; exact run_string_add_sum W _ _ (by rw [bs_size, bs_size]; omega)
  have H5 := Lib.hid (later H4.out hb5)
  clear hb5 hdF
  go_wp2_with fail
  exact bodyPost_ret (v := .tuple #[.string (bs (F ++ CrcM.ctail F)), .int .i64 0]) (by simp [results, Tryd.results9, go_sem]) rfl ⟨rfl, HB.out.trans (H5.out.mono HB.out.size)⟩
/-- A call of a function that has a body: it is entered. -/
theorem enters {P : Program} {f : FuncId} {fn : Func} (hf : P.funcs[f]? = some fn) (hname : (fn.name == "runtime.NumGoroutine") = false) (hb : fn.body.isSome = true) (args : Array Value) (w : World) : (callFunc f args).run P w = .ok (.enter f args) w := by
  have h1 : fn.name ≠ "runtime.NumGoroutine" := by simpa using hname
  obtain ⟨c, hc⟩ := Option.isSome_iff_exists.1 hb
  simp [callFunc, hf, h1, hc]
theorem wS_le {l : List Sm} (h : l.length ≤ 200) : (body 1 l).length ≤ 100000 := by
  show (wide l.length ++ wS l).length ≤ _
  rw [List.length_append, wide_len, wS_len]; omega
theorem sS_le {l : List Sm} (h : l.length ≤ 200) : (body 2 l).length ≤ 100000 := by
  have := sS_len l 0
  have := sm_len 9 l.length
  show (small l.length ++ sS 0 l).length ≤ _
  unfold small; rw [List.length_append]; omega
theorem bB_le {l : List Sm} (h : l.length ≤ 200) : (body 3 l).length ≤ 100000 := by
  have hb1 := bitsAll_len StW.s0 (times l)
  have hb2 := VaM.bitsV_len VaM.v0 (vals l)
  rw [times_len] at hb1
  rw [vals_len] at hb2
  have ht1 : (tB l).length ≤ 8501 := by unfold tB; have := pack_le (bitsAll StW.s0 (times l)); omega
  have ht2 : (vB l).length ≤ 9751 := by unfold vB; have := pack_le (VaM.bitsV VaM.v0 (vals l)); omega
  have hs1 : (small l.length).length ≤ 10 := sm_len 9 l.length
  have hs2 := text_len (tB l)
  have hs3 := text_len (vB l)
  have hs4 : (small (tB l).length).length ≤ 10 := sm_len 9 _
  have hs5 : (small (vB l).length).length ≤ 10 := sm_len 9 _
  show (small l.length ++ (text (tB l) ++ text (vB l))).length ≤ _
  rw [List.length_append, List.length_append]; omega
theorem putC_bad {g : Int} {l : List Sm} (h : may g l = false) : putC g l = ([], 1) := by unfold putC; rw [h]; rfl
theorem putC_good {g : Int} {l : List Sm} (h : may g l = true) : putC g l = (body g l ++ CrcM.ctail (body g l), 0) := by unfold putC; rw [h]; rfl
/-- chunk.Put: the bytes that samples are. -/
theorem put_any (gen : Int) (A : Option Addr) (n c : Nat) (l : List Sm) (w : World) (hl : Comes w 2 encS okS A n c l) (hT : Tab w) :
    Calls Tryd.prog 9 #[.slice A n c, .int .i64 gen] w fun e w' => e = .returned (.tuple #[.string (bs (putC gen l).1), .int .i64 (putC gen l).2]) ∧ Below w.heap.size w w' := by
  have hln := hl.len
  by_cases hg : 1 ≤ gen ∧ gen ≤ 3
  · by_cases hs : LabW.sortedL l = true
    · by_cases hn : n ≤ 200
      · have hm : may gen l = true := by unfold may; rw [← sorted_eq, hs]; simp; omega
        rw [putC_good hm]
        rcases (by omega : gen = 1 ∨ gen = 2 ∨ gen = 3) with rfl | rfl | rfl
        · exact put_good 1 36 37 (body 1 l) A n c l w hl hT rfl hs hn (enters Tryd.func36 (by kernel_rfl) (by kernel_rfl)) (wS_le (by omega)) (fun w0 w b h1 h2 h3 _ => putWide_any w0 w b A n c l h1 (by omega) h2 h3)
        · exact put_good 2 38 39 (body 2 l) A n c l w hl hT rfl hs hn (enters Tryd.func38 (by kernel_rfl) (by kernel_rfl)) (sS_le (by omega)) (fun w0 w b h1 h2 h3 _ => putSmall_any w0 w b A n c l h1 (by omega) h2 h3)
        · exact put_good 3 40 41 (body 3 l) A n c l w hl hT rfl hs hn (enters Tryd.func40 (by kernel_rfl) (by kernel_rfl)) (bB_le (by omega)) (fun w0 w b h1 h2 h3 h4 => putBits_any w0 w b A n c l h1 (by omega) h2 h3 h4)
      · have hm : may gen l = false := by unfold may; rw [decide_eq_false (by omega : ¬ l.length ≤ 200), Bool.and_false]
        rw [putC_bad hm]
        rcases (by omega : gen = 1 ∨ gen = 2 ∨ gen = 3) with rfl | rfl | rfl
        · exact put_bad3 1 _ _ A n c l w hl rfl hs (by omega)
        · exact put_bad3 2 _ _ A n c l w hl rfl hs (by omega)
        · exact put_bad3 3 _ _ A n c l w hl rfl hs (by omega)
    · have hs := Bool.eq_false_iff.2 hs
      have hm : may gen l = false := by unfold may; rw [← sorted_eq, hs, Bool.and_false, Bool.false_and]
      rw [putC_bad hm]
      rcases (by omega : gen = 1 ∨ gen = 2 ∨ gen = 3) with rfl | rfl | rfl
      · exact put_bad2 1 _ _ A n c l w hl rfl hs
      · exact put_bad2 2 _ _ A n c l w hl rfl hs
      · exact put_bad2 3 _ _ A n c l w hl rfl hs
  · have hm : may gen l = false := by
      unfold may
      rcases (by omega : ¬ 1 ≤ gen ∨ ¬ gen ≤ 3) with h | h
      · rw [decide_eq_false h]; rfl
      · rw [decide_eq_false h, Bool.and_false]; rfl
    rw [putC_bad hm]
    exact put_bad1 gen A n c w (by unfold ofV; rw [if_neg hg])
end Go.Proofs.YtdidengokijcjaaDoor.ChW
