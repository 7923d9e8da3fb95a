/-
  num.Cursor: take of a number, Small, Wide, Done: THE WALKS.
  num.Cursor.Text, of 100000 bytes at most: THE WALKS.
  chunk.getWide$1, getSmall$1: THE WALKS.
-/
import Derived.Test.YtdidengokijcjaaDoorJ24
import Derived.Deep.RegionWith
/-
  num.Cursor: take of a number, Small, Wide, Done: THE WALKS.
-/
namespace Go.Proofs.YtdidengokijcjaaDoor.ChW
set_option linter.unusedVariables false
open Go.RowKit FrM FrW StM ChM
/-- A call of a function that has a body: it is entered. -/
theorem entersC {P : Program} {f : FuncId} {fn : Func} (hf : P.funcs[f]? = some fn) (hname : (fn.name == "runtime.NumGoroutine") = false) (hb : fn.body.isSome = true) (args : Array Value) (w : World) : (callFunc f args).run P w = .ok (.enter f args) w := by
  have h1 : fn.name ≠ "runtime.NumGoroutine" := by simpa using hname
  obtain ⟨c, hc⟩ := Option.isSome_iff_exists.1 hb
  simp [callFunc, hf, h1, hc]
/-- A cursor in the block g. -/
def CurAt (W : World) (g : Nat) (c : Cu) : Prop := W.heap[g]? = some (.cells #[.string (bs c.1), .bool c.2] 60 (0, 0))
theorem CurAt.c0 {W : World} {g : Nat} {l : List UInt8} {b : Bool} (h : CurAt W g (l, b)) : W.cell? ⟨g, 0, none⟩ = some (.string (bs l)) := by rw [cell_of_row W _ _ _ _ _ h]; rfl
theorem CurAt.c1 {W : World} {g : Nat} {l : List UInt8} {b : Bool} (h : CurAt W g (l, b)) : W.cell? ⟨g, 1, none⟩ = some (.bool b) := by rw [cell_of_row W _ _ _ _ _ h]; rfl
theorem CurAt.later {W W' : World} {g : Nat} {c : Cu} (h : CurAt W g c) (hb : Below W.heap.size W W') : CurAt W' g c := (hb.block _ (Array.getElem?_eq_some_iff.1 h).1).trans h
theorem CurAt.lt {W : World} {g : Nat} {c : Cu} (h : CurAt W g c) : g < W.heap.size := (Array.getElem?_eq_some_iff.1 h).1
theorem CurAt.setS {W : World} {g : Nat} {l : List UInt8} {b : Bool} (h : CurAt W g (l, b)) (m : List UInt8) : CurAt (W.setCell ⟨g, 0, none⟩ (.string (bs m))) g (m, b) := heap_setCell_same W g 0 _ _ _ h
theorem CurAt.setB {W : World} {g : Nat} {l : List UInt8} {b : Bool} (h : CurAt W g (l, b)) (c : Bool) : CurAt (W.setCell ⟨g, 1, none⟩ (.bool c)) g (l, c) := heap_setCell_same W g 1 _ _ _ h
/-- From w to w' nothing turned but the block g. -/
theorem g_set {w W : World} (g i : Nat) (v : Value) (hb : Below w.heap.size w W) : w.grownBy (W.setCell ⟨g, i, none⟩ v) (some g) :=
  ⟨hb.os, hb.tape, hb.output, by simpa using hb.size, fun k hk hne => (heap_setCell_other _ _ _ _ (fun e => hne (by rw [e]))).trans (hb.block k hk)⟩
theorem g_trans {w w1 w2 : World} {r : Option Nat} (h : w.grownBy w1 r) (k : w1.grownBy w2 r) : w.grownBy w2 r :=
  ⟨k.os.trans h.os, k.tape.trans h.tape, k.output.trans h.output, Nat.le_trans h.size k.size, fun i hi hne => (k.block i (Nat.lt_of_lt_of_le hi h.size) hne).trans (h.block i hi hne)⟩
theorem g_below {w w' : World} {g B : Nat} (h : w.grownBy w' (some g)) (hB : B ≤ g) (hw : B ≤ w.heap.size) : Below B w w' :=
  ⟨h.os, h.tape, h.output, h.size, fun k hk => h.block k (by omega) (fun e => by injection e with e; omega)⟩
theorem below_g {w w' : World} (h : Below w.heap.size w w') (r : Option Nat) : w.grownBy w' r := ⟨h.os, h.tape, h.output, h.size, fun k hk _ => h.block k hk⟩
set_option maxHeartbeats 1000000 in
theorem tk_bad (k g : Nat) (l : List UInt8) (w : World) (h : CurAt w g (l, true)) :
    Calls Tryd.prog 68 #[.pointer (some ⟨g, 0, none⟩), .func (Fn.func k) #[] #[]] w fun e w' => e = .returned (.int .u64 0) ∧ w' = w := by
  have c0 := h.c0
  have c1 := h.c1
  clear h
  go_enter Tryd.func68, Tryd.ntmps68
  go_wp2_with fail
  go_ret
  exact ⟨rfl, rfl⟩
set_option maxHeartbeats 1000000 in
theorem tk_none (k g : Nat) (l : List UInt8) (w : World) (h : CurAt w g (l, false)) (hk : ∀ (xs : Array Value) (W : World), (callFunc k xs).run Tryd.prog W = .ok (.enter k xs) W)
    (HS : Calls Tryd.prog k #[.string (bs l)] w fun e w' => e = .returned (.tuple #[.int .u64 0, .int .i64 (-1)]) ∧ w = w') :
    Calls Tryd.prog 68 #[.pointer (some ⟨g, 0, none⟩), .func (Fn.func k) #[] #[]] w fun e w' => e = .returned (.int .u64 0) ∧ CurAt w' g (l, true) ∧ w.grownBy w' (some g) := by
  have c0 := h.c0
  have c1 := h.c1
  have f1 : w.frozen? ⟨g, 1, none⟩ = false := frozen_of_row w g 1 _ _ h
  have HS := Lib.hid HS
  obtain ⟨X, hX⟩ : ∃ X, bs l = X := ⟨_, rfl⟩
  rw [hX] at HS c0
  have HF := Lib.hid (show CurAt (w.setCell ⟨g, 1, none⟩ (.bool true)) g (l, true) ∧ w.grownBy (w.setCell ⟨g, 1, none⟩ (.bool true)) (some g) from ⟨h.setB true, g_set g _ _ (Below.refl _ _)⟩)
  clear h hX
  go_enter Tryd.func68, Tryd.ntmps68
  go_wp2_with fail
  refine HS.out.mono ?_
  rintro e w' ⟨rfl, rfl⟩
  go_wp2_with fail
  go_ret
  exact ⟨rfl, HF.out⟩
set_option maxHeartbeats 1000000 in
theorem tk_some (k g : Nat) (l : List UInt8) (n p : Nat) (w : World) (h : CurAt w g (l, false)) (hk : ∀ (xs : Array Value) (W : World), (callFunc k xs).run Tryd.prog W = .ok (.enter k xs) W) (hp : p ≤ l.length) (hl : l.length ≤ 2199023255552)
    (HS : Calls Tryd.prog k #[.string (bs l)] w fun e w' => e = .returned (.tuple #[.int .u64 (n : Int), .int .i64 (p : Int)]) ∧ w = w') :
    Calls Tryd.prog 68 #[.pointer (some ⟨g, 0, none⟩), .func (Fn.func k) #[] #[]] w fun e w' => e = .returned (.int .u64 (n : Int)) ∧ CurAt w' g (l.drop p, false) ∧ w.grownBy w' (some g) := by
  have c0 := h.c0
  have c1 := h.c1
  have f0 : w.frozen? ⟨g, 0, none⟩ = false := frozen_of_row w g 0 _ _ h
  have HS := Lib.hid HS
  have hz := bs_size l
  have hsl := slice_from (P := Tryd.prog) Tryd.underlying9 (bs l) (p : Int) p rfl (by omega)
  rw [bs_extract, hz, List.take_of_length_le (by rw [List.length_drop]; omega)] at hsl
  have hk0 : (0 : Int) ≤ (p : Int) := by omega
  have hk1 : ¬ (p : Int) < 0 := by omega
  have HF := Lib.hid (show CurAt (w.setCell ⟨g, 0, none⟩ (.string (bs (l.drop p)))) g (l.drop p, false) ∧ w.grownBy (w.setCell ⟨g, 0, none⟩ (.string (bs (l.drop p)))) (some g) from ⟨h.setS _, g_set g _ _ (Below.refl _ _)⟩)
  obtain ⟨Y, hY⟩ : ∃ Y, bs (l.drop p) = Y := ⟨_, rfl⟩
  obtain ⟨X, hX⟩ : ∃ X, bs l = X := ⟨_, rfl⟩
  rw [hX] at HS c0 hz hsl
  rw [hY] at hsl HF
  clear h hX hY
  go_enter Tryd.func68, Tryd.ntmps68
  go_wp2_with fail
  refine HS.out.mono ?_
  rintro e w' ⟨rfl, rfl⟩
  go_wp2_with fail
  go_ret
  exact ⟨rfl, HF.out⟩
theorem enter_small (xs : Array Value) (W : World) : (callFunc 70 xs).run Tryd.prog W = .ok (.enter 70 xs) W := entersC Tryd.func70 (by kernel_rfl) (by kernel_rfl) xs W
theorem enter_wide (xs : Array Value) (W : World) : (callFunc 69 xs).run Tryd.prog W = .ok (.enter 69 xs) W := entersC Tryd.func69 (by kernel_rfl) (by kernel_rfl) xs W
theorem gs_le {l : List UInt8} {n k : Nat} (h : gs 0 0 l = some (n, k)) : k ≤ l.length := by
  obtain ⟨h1, h2, h3⟩ := gs_is h
  have := congrArg List.length h3
  rw [List.length_append, ← h2] at this; omega
set_option maxHeartbeats 400000 in
/-- A number is taken. -/
theorem csmall_any (g : Nat) (c : Cu) (w : World) (h : CurAt w g c) (hl : c.1.length ≤ 2199023255552) :
    Calls Tryd.prog 57 #[.pointer (some ⟨g, 0, none⟩)] w fun e w' => e = .returned (.int .u64 ((smallC c).1 : Int)) ∧ CurAt w' g (smallC c).2 ∧ w.grownBy w' (some g) := by
  have HT : Hid (Calls Tryd.prog 68 #[.pointer (some ⟨g, 0, none⟩), .func (Fn.func 70) #[] #[]] w fun e w' => e = .returned (.int .u64 ((smallC c).1 : Int)) ∧ CurAt w' g (smallC c).2 ∧ w.grownBy w' (some g)) := by
    refine Lib.hid ?_
    obtain ⟨l, b⟩ := c
    cases b with
    | true =>
      refine (tk_bad _ g l w h).mono ?_
      rintro e w' ⟨rfl, rfl⟩
      exact ⟨rfl, h, below_g (Below.refl _ _) _⟩
    | false =>
      have HS := nsmall_any l w hl
      cases hg : gs 0 0 l with
      | none =>
        rw [hg] at HS
        have e1 : smallC (l, false) = (0, (l, true)) := by unfold smallC; rw [if_neg (by simp)]; simp only []; rw [hg]
        rw [e1]
        exact tk_none _ g l w h enter_small HS
      | some p =>
        obtain ⟨n, k⟩ := p
        rw [hg] at HS
        have e1 : smallC (l, false) = (n, (l.drop k, false)) := by unfold smallC; rw [if_neg (by simp)]; simp only []; rw [hg]
        rw [e1]
        exact tk_some _ g l n k w h enter_small (gs_le hg) hl HS
  clear h hl
  go_enter Tryd.func57, Tryd.ntmps57
  go_wp2_with fail
  refine HT.out.mono ?_
  rintro e w' ⟨rfl, h1, h2⟩
  go_wp2_with fail
  go_ret
  exact ⟨rfl, h1, h2⟩
theorem unw_snoc : ∀ (l : List UInt8) (y : UInt8), unw (l ++ [y]) = unw l + y.toNat * 256 ^ l.length
  | [], y => by simp [unw]
  | c :: l, y => by
    show c.toNat + 256 * unw (l ++ [y]) = c.toNat + 256 * unw l + y.toNat * 256 ^ (l.length + 1)
    rw [unw_snoc l y, Nat.pow_succ, Nat.mul_add, Nat.add_assoc, Nat.mul_comm 256 (y.toNat * _), Nat.mul_assoc]
set_option maxHeartbeats 1000000 in
theorem wk_short (l : List UInt8) (w : World) (h : l.length < 8) :
    Calls Tryd.prog 69 #[.string (bs l)] w fun e w' => e = .returned (.tuple #[.int .u64 0, .int .i64 (-1)]) ∧ w = w' := by
  have hz := bs_size l
  obtain ⟨X, hX⟩ : ∃ X, bs l = X := ⟨_, rfl⟩
  rw [hX] at hz ⊢
  clear hX
  have h1 : (l.length : Int) < 8 := by omega
  go_enter Tryd.func69, Tryd.ntmps69
  go_wp2_with fail
  go_ret2
  exact ⟨rfl, rfl⟩
set_option maxRecDepth 20000 in
set_option maxHeartbeats 1000000 in
theorem wk_long (l : List UInt8) (w : World) (h : 8 ≤ l.length) (hl : l.length ≤ 2199023255552) :
    Calls Tryd.prog 69 #[.string (bs l)] w fun e w' => e = .returned (.tuple #[.int .u64 (unw (l.take 8) : Int), .int .i64 ((8 : Nat) : Int)]) ∧ w = w' := by
  have hz := bs_size l
  have HG : ∀ (i : Nat) (h : i < (bs l).size) (h2 : i < l.length), (bs l)[i]'h = l[i]'h2 := fun _ _ _ => rfl
  obtain ⟨X, hX⟩ : ∃ X, bs l = X := ⟨_, rfl⟩
  rw [hX] at hz HG ⊢
  have HGG := Lib.hid HG
  clear hX HG
  obtain ⟨r, hr⟩ : ∃ r, unw (l.take 8) = r := ⟨_, rfl⟩
  rw [hr]
  have HR := Lib.hid hr
  clear hr
  have h1 : ¬ (l.length : Int) < 8 := by omega
  go_enter Tryd.func69, Tryd.ntmps69
  go_wp2_with fail
  go_loopw [4, 9] (fun v4 v9 wr => ∃ i : Nat, i ≤ 8 ∧ v9 = .int .i64 i ∧ v4 = .int .u64 (unw (l.take i) : Int) ∧ wr = w) (fun _ v9 _ => 8 - (intOf v9).toNat)
  case atStart => exact ⟨0, by omega, rfl, rfl, rfl⟩
  case round =>
    obtain ⟨i, hi, rfl, rfl, rfl⟩ := hrel
    by_cases hlt : i < 8
    · have hil : i < l.length := by omega
      have hix : i < X.size := by omega
      have hg := HGG.out i hix hil
      have ht := unw_snoc (l.take i) l[i]
      rw [← List.take_succ_eq_append_getElem hil, List.length_take, Nat.min_eq_left (by omega)] at ht
      have hu := unw_lt (l.take i)
      have hu2 := unw_lt (l.take (i + 1))
      rw [List.length_take, Nat.min_eq_left (by omega)] at hu hu2
      have hyl := l[i].toNat_lt
      have hpow : (256 : Nat) ^ i = 2 ^ (8 * i) := by rw [Nat.pow_mul]
      have h8 : (256 : Nat) ^ (i + 1) ≤ 256 ^ 8 := Nat.pow_le_pow_right (by omega) (by omega)
      have h8b : (256 : Nat) ^ 8 = 18446744073709551616 := by decide
      obtain ⟨a2, ha2⟩ : ∃ a2, unw (l.take (i + 1)) = a2 := ⟨_, rfl⟩
      have HA2 := Lib.hid ha2
      rw [ha2] at ht hu2
      rw [hpow] at ht hu
      generalize unw (l.take i) = a at *
      generalize l[i] = y at *
      obtain ⟨z, hyz⟩ : ∃ z, y.toNat = z := ⟨_, rfl⟩
      have hgz : X[i].toNat = z := by rw [hg]; exact hyz
      rw [hyz] at ht hyl
      have hor := or_u64 a z (8 * i) hu (by omega)
      rw [← ht] at hor
      obtain ⟨sh, hsh⟩ : ∃ sh, z * 2 ^ (8 * i) = sh := ⟨_, rfl⟩
      rw [hsh] at hor ht
      have hw : IntKind.u64.wrap ((z : Int) * 2 ^ (8 * (i : Int)).toNat) = (sh : Int) := by
        have e : (8 * (i : Int)).toNat = 8 * i := by omega
        rw [e, IntKind.wrap_u64]
        have : (z : Int) * 2 ^ (8 * i) = (sh : Int) := by rw [← hsh, Int.natCast_mul, Int.natCast_pow]; rfl
        rw [this]; omega
      have i0 : (0 : Int) ≤ (i : Int) := by omega
      have i1 : (i : Int) < (8 : Int) := by omega
      clear ha2 hg hyz hu hu2 hpow h8 h8b hsh ht
      go_wp2_with fail
      go_roundw
      case rel => exact ⟨i + 1, by omega, by go_num, by rw [HA2.out], by first | trivial | rfl⟩
      case measure => simp [intOf]; omega
    · obtain rfl : i = 8 := by omega
      have hr := HR.out
      rw [hr]
      go_wp2_with fail
      go_ret2
      exact ⟨rfl, rfl⟩
theorem unw_8 (l : Txt) : unw (l.take 8) < 18446744073709551616 := by
  have := unw_lt (l.take 8)
  have h2 : (256 : Nat) ^ (l.take 8).length ≤ 256 ^ 8 := Nat.pow_le_pow_right (by omega) (by rw [List.length_take]; omega)
  have h8b : (256 : Nat) ^ 8 = 18446744073709551616 := by decide
  omega
set_option maxHeartbeats 400000 in
/-- A wide number is taken. -/
theorem cwide_any (g : Nat) (c : Cu) (w : World) (h : CurAt w g c) (hl : c.1.length ≤ 2199023255552) :
    Calls Tryd.prog 53 #[.pointer (some ⟨g, 0, none⟩)] w fun e w' => e = .returned (.int .u64 ((wideC c).1 : Int)) ∧ CurAt w' g (wideC c).2 ∧ w.grownBy w' (some g) := by
  have HT : Hid (Calls Tryd.prog 68 #[.pointer (some ⟨g, 0, none⟩), .func (Fn.func 69) #[] #[]] w fun e w' => e = .returned (.int .u64 ((wideC c).1 : Int)) ∧ CurAt w' g (wideC c).2 ∧ w.grownBy w' (some g)) := by
    refine Lib.hid ?_
    obtain ⟨l, b⟩ := c
    cases b with
    | true =>
      refine (tk_bad _ g l w h).mono ?_
      rintro e w' ⟨rfl, rfl⟩
      exact ⟨rfl, h, below_g (Below.refl _ _) _⟩
    | false =>
      by_cases hs : l.length < 8
      · have e1 : wideC (l, false) = (0, (l, true)) := by unfold wideC; rw [if_neg (by simp), if_pos hs]
        rw [e1]
        exact tk_none _ g l w h enter_wide (wk_short l w hs)
      · have e1 : wideC (l, false) = (unw (l.take 8), (l.drop 8, false)) := by unfold wideC; rw [if_neg (by simp), if_neg hs]
        rw [e1]
        exact tk_some _ g l _ 8 w h enter_wide (by omega) hl (wk_long l w (by omega) hl)
  clear h hl
  go_enter Tryd.func53, Tryd.ntmps53
  go_wp2_with fail
  refine HT.out.mono ?_
  rintro e w' ⟨rfl, h1, h2⟩
  go_wp2_with fail
  go_ret
  exact ⟨rfl, h1, h2⟩
set_option maxHeartbeats 400000 in
/-- Is all read? -/
theorem cdone_any (g : Nat) (c : Cu) (w : World) (h : CurAt w g c) :
    Calls Tryd.prog 28 #[.pointer (some ⟨g, 0, none⟩)] w fun e w' => e = .returned (.bool (decide (c.1 = []) && !c.2)) ∧ w' = w := by
  obtain ⟨l, b⟩ := c
  have c0 := h.c0
  have c1 := h.c1
  clear h
  have hE : (bs l).toList = l := by rw [ByteArray.toList_eq, bs_list]
  generalize bs l = X at *
  cases l with
  | nil =>
    have hE2 : X.toList.isEmpty = true := by rw [hE]; rfl
    go_enter Tryd.func28, Tryd.ntmps28
    cases b
    · go_wp2_with fail
      go_ret
      exact ⟨rfl, rfl⟩
    · go_wp2_with fail
      go_ret
      exact ⟨rfl, rfl⟩
  | cons x l =>
    have hE2 : X.toList.isEmpty = false := by rw [hE]; rfl
    have hE3 : ¬ X.toList = [] := by rw [hE]; simp
    have hd : decide ((x :: l) = ([] : List UInt8)) = false := by simp
    simp only []
    rw [hd]
    clear hE hd
    go_enter Tryd.func28, Tryd.ntmps28
    go_wp2_with fail
    go_ret
    exact ⟨rfl, rfl⟩
end Go.Proofs.YtdidengokijcjaaDoor.ChW
/-
  num.Cursor.Text, of 100000 bytes at most: THE WALKS.
-/
namespace Go.Proofs.YtdidengokijcjaaDoor.ChW
set_option linter.unusedVariables false
open Go.RowKit FrM FrW StM ChM
set_option maxHeartbeats 1000000 in
theorem tx_none (l : List UInt8) (g2 : Nat) (w : World) (h : w.cell? ⟨g2, 0, none⟩ = some (.int .i64 100000)) (hl : l.length ≤ 2199023255552) (hg : (textC 100000 (l, false)).2.2 = true) :
    textC 100000 (l, false) = ([], (l, true)) ∧ Calls Tryd.prog 80 #[.string (bs l), .pointer (some ⟨g2, 0, none⟩)] w fun e w' => e = .returned (.tuple #[.string ⟨#[]⟩, .int .i64 (-1)]) ∧ Below w.heap.size w w' := by
  have hz := bs_size l
  have HS := Lib.hid (nsmall_any l w hl)
  unfold textC at hg ⊢
  rw [if_neg (by simp)] at hg ⊢
  simp only [] at hg ⊢
  cases hgs : gs 0 0 l with
  | none =>
    refine ⟨rfl, ?_⟩
    rw [hgs, show gsV none = .tuple #[.int .u64 0, .int .i64 (-1)] from rfl] at HS
    obtain ⟨X, hX⟩ : ∃ X, bs l = X := ⟨_, rfl⟩
    rw [hX] at hz HS ⊢
    clear hg hgs hX
    go_enter Tryd.func80, Tryd.ntmps80
    go_wp2_with fail
    refine HS.out.mono ?_
    rintro e w' ⟨rfl, rfl⟩
    go_wp2
    go_ret2
    exact ⟨rfl, Below.refl _ _⟩
  | some p =>
    obtain ⟨n, k⟩ := p
    rw [hgs] at hg
    simp only [] at hg ⊢
    rw [hgs, show gsV (some (n, k)) = .tuple #[.int .u64 (n : Int), .int .i64 (k : Int)] from rfl] at HS
    have hkl := gs_le hgs
    have hc : l.length - k < n ∨ 100000 < n := by
      by_cases hcc : l.length - k < n ∨ 100000 < n
      · exact hcc
      · rw [if_neg hcc] at hg; cases hg
    rw [if_pos hc]
    refine ⟨rfl, ?_⟩
    obtain ⟨q, hq⟩ : ∃ q, l.length = q := ⟨_, rfl⟩
    rw [hq] at hz hkl hc hl
    obtain ⟨X, hX⟩ : ∃ X, bs l = X := ⟨_, rfl⟩
    rw [hX] at hz HS ⊢
    clear hg hgs hX hq
    have k0 : ¬ (k : Int) < 0 := by omega
    rcases Nat.lt_or_ge 100000 (q - k) with hm | hm
    · have m1 : 100000 < (q : Int) - (k : Int) := by omega
      have m2 : (n : Int) > 100000 := by omega
      go_enter Tryd.func80, Tryd.ntmps80
      go_wp2_with fail
      refine HS.out.mono ?_
      rintro e w' ⟨rfl, rfl⟩
      go_wp2
      go_ret2
      exact ⟨rfl, Below.refl _ _⟩
    · have m1 : ¬ 100000 < (q : Int) - (k : Int) := by omega
      have m2 : (n : Int) > (q : Int) - (k : Int) := by omega
      go_enter Tryd.func80, Tryd.ntmps80
      go_wp2_with fail
      refine HS.out.mono ?_
      rintro e w' ⟨rfl, rfl⟩
      go_wp2
      go_ret2
      exact ⟨rfl, Below.refl _ _⟩
set_option maxHeartbeats 1000000 in
theorem tx_some (l : List UInt8) (g2 : Nat) (w : World) (h : w.cell? ⟨g2, 0, none⟩ = some (.int .i64 100000)) (hl : l.length ≤ 2199023255552) (hg : (textC 100000 (l, false)).2.2 = false) :
    ∃ b p, p ≤ l.length ∧ textC 100000 (l, false) = (b, (l.drop p, false)) ∧ Calls Tryd.prog 80 #[.string (bs l), .pointer (some ⟨g2, 0, none⟩)] w fun e w' => e = .returned (.tuple #[.string (bs b), .int .i64 (p : Int)]) ∧ Below w.heap.size w w' := by
  have hz := bs_size l
  have HS := Lib.hid (nsmall_any l w hl)
  unfold textC at hg ⊢
  rw [if_neg (by simp)] at hg ⊢
  simp only [] at hg ⊢
  cases hgs : gs 0 0 l with
  | none => rw [hgs] at hg; cases hg
  | some p =>
    obtain ⟨n, k⟩ := p
    rw [hgs] at hg
    simp only [] at hg ⊢
    rw [hgs, show gsV (some (n, k)) = .tuple #[.int .u64 (n : Int), .int .i64 (k : Int)] from rfl] at HS
    have hkl := gs_le hgs
    split at hg
    · cases hg
    rename_i hc
    rw [if_neg hc]
    have hc1 : k + n ≤ l.length := by omega
    have hc2 : n ≤ 100000 := by omega
    refine ⟨(l.drop k).take n, k + n, hc1, rfl, ?_⟩
    have hsl := slice_mid (P := Tryd.prog) Tryd.underlying9 (bs l) (k : Int) ((k : Int) + (n : Int)) k (k + n) rfl (by omega) (by omega) (by omega)
    rw [bs_extract, show k + n - k = n by omega] at hsl
    obtain ⟨q, hq⟩ : ∃ q, l.length = q := ⟨_, rfl⟩
    rw [hq] at hz hkl hc1 hl
    obtain ⟨Y, hY⟩ : ∃ Y, bs ((l.drop k).take n) = Y := ⟨_, rfl⟩
    rw [hY] at hsl ⊢
    obtain ⟨X, hX⟩ : ∃ X, bs l = X := ⟨_, rfl⟩
    rw [hX] at hz HS hsl ⊢
    clear hgs hX hY hq hc
    have k0 : ¬ (k : Int) < 0 := by omega
    rcases Nat.lt_or_ge 100000 (q - k) with hm | hm
    · have m1 : 100000 < (q : Int) - (k : Int) := by omega
      have m2 : ¬ (n : Int) > 100000 := by omega
      go_enter Tryd.func80, Tryd.ntmps80
      go_wp2_with fail
      refine HS.out.mono ?_
      rintro e w' ⟨rfl, rfl⟩
      go_wp2
      go_ret2
      exact ⟨rfl, Below.refl _ _⟩
    · have m1 : ¬ 100000 < (q : Int) - (k : Int) := by omega
      have m2 : ¬ (n : Int) > (q : Int) - (k : Int) := by omega
      go_enter Tryd.func80, Tryd.ntmps80
      go_wp2_with fail
      refine HS.out.mono ?_
      rintro e w' ⟨rfl, rfl⟩
      go_wp2
      go_ret2
      exact ⟨rfl, Below.refl _ _⟩
set_option maxHeartbeats 1000000 in
theorem ttk_bad (g g2 : Nat) (l : List UInt8) (w : World) (h : CurAt w g (l, true)) :
    Calls Tryd.prog 79 #[.pointer (some ⟨g, 0, none⟩), .func (Fn.func 80) #[] #[.pointer (some ⟨g2, 0, none⟩)]] w fun e w' => e = .returned (.string ⟨#[]⟩) ∧ w' = w := by
  have c0 := h.c0
  have c1 := h.c1
  clear h
  go_enter Tryd.func79, Tryd.ntmps79
  go_wp2
  go_ret
  exact ⟨rfl, rfl⟩
set_option maxHeartbeats 1000000 in
theorem ttk_none (g g2 : Nat) (l : List UInt8) (w : World) (h : CurAt w g (l, false)) (HS0 : Calls Tryd.prog 80 #[.string (bs l), .pointer (some ⟨g2, 0, none⟩)] w fun e w' => e = .returned (.tuple #[.string ⟨#[]⟩, .int .i64 (-1)]) ∧ Below w.heap.size w w') :
    Calls Tryd.prog 79 #[.pointer (some ⟨g, 0, none⟩), .func (Fn.func 80) #[] #[.pointer (some ⟨g2, 0, none⟩)]] w fun e w' => e = .returned (.string ⟨#[]⟩) ∧ CurAt w' g (l, true) ∧ w.grownBy w' (some g) := by
  have c0 := h.c0
  have c1 := h.c1
  have HS := Lib.hid HS0
  have HC0 : Hid (∀ W, Below w.heap.size w W → W.cell? ⟨g, 1, none⟩ = some (.bool false) ∧ W.frozen? ⟨g, 1, none⟩ = false) := Lib.hid (fun W hb => ⟨(h.later hb).c1, frozen_of_row W g 1 _ _ (h.later hb)⟩)
  have HF : Hid (∀ W, Below w.heap.size w W → CurAt (W.setCell ⟨g, 1, none⟩ (.bool true)) g (l, true) ∧ w.grownBy (W.setCell ⟨g, 1, none⟩ (.bool true)) (some g)) := Lib.hid (fun W hb => ⟨(h.later hb).setB _, g_set g _ _ hb⟩)
  clear HS0
  obtain ⟨X, hX⟩ : ∃ X, bs l = X := ⟨_, rfl⟩
  rw [hX] at HS c0
  clear h hX
  go_enter Tryd.func79, Tryd.ntmps79
  go_wp2_with fail
  refine HS.out.mono ?_
  rintro e w1 ⟨rfl, hb1⟩
  obtain ⟨d1, f0⟩ := HC0.out _ hb1
  have HG := Lib.hid (HF.out _ hb1)
  clear hb1 HC0 HF c0 c1
  go_wp2
  go_ret
  exact ⟨rfl, HG.out⟩
set_option maxHeartbeats 1000000 in
theorem ttk_some (g g2 p : Nat) (l b : List UInt8) (w : World) (h : CurAt w g (l, false)) (hl : l.length ≤ 2199023255552) (hp : p ≤ l.length) (hS : Calls Tryd.prog 80 #[.string (bs l), .pointer (some ⟨g2, 0, none⟩)] w fun e w' => e = .returned (.tuple #[.string (bs b), .int .i64 (p : Int)]) ∧ Below w.heap.size w w') :
    Calls Tryd.prog 79 #[.pointer (some ⟨g, 0, none⟩), .func (Fn.func 80) #[] #[.pointer (some ⟨g2, 0, none⟩)]] w fun e w' => e = .returned (.string (bs b)) ∧ CurAt w' g (l.drop p, false) ∧ w.grownBy w' (some g) := by
  have c0 := h.c0
  have c1 := h.c1
  have HS := Lib.hid hS
  have HC : Hid (∀ W, Below w.heap.size w W → CurAt W g (l, false)) := Lib.hid (fun W hb => h.later hb)
  have hz := bs_size l
  have hsl := slice_from (P := Tryd.prog) Tryd.underlying9 (bs l) (p : Int) p rfl (by omega)
  rw [bs_extract, hz, List.take_of_length_le (by rw [List.length_drop]; omega)] at hsl
  have hk0 : (0 : Int) ≤ (p : Int) := by omega
  have hk1 : ¬ (p : Int) < 0 := by omega
  have HF : Hid (∀ W, Below w.heap.size w W → CurAt (W.setCell ⟨g, 0, none⟩ (.string (bs (l.drop p)))) g (l.drop p, false) ∧ w.grownBy (W.setCell ⟨g, 0, none⟩ (.string (bs (l.drop p)))) (some g)) := Lib.hid (fun W hb => ⟨(h.later hb).setS _, g_set g _ _ hb⟩)
  clear hS
  obtain ⟨Y, hY⟩ : ∃ Y, bs (l.drop p) = Y := ⟨_, rfl⟩
  rw [hY] at hsl HF
  obtain ⟨Z, hZ⟩ : ∃ Z, bs b = Z := ⟨_, rfl⟩
  obtain ⟨X, hX⟩ : ∃ X, bs l = X := ⟨_, rfl⟩
  rw [hZ] at HS ⊢
  rw [hX] at HS c0 hz hsl
  have HC0 : Hid (∀ W, Below w.heap.size w W → W.cell? ⟨g, 0, none⟩ = some (.string X) ∧ W.cell? ⟨g, 1, none⟩ = some (.bool false) ∧ W.frozen? ⟨g, 0, none⟩ = false) := Lib.hid (fun W hb => ⟨by rw [← hX]; exact (HC.out W hb).c0, (HC.out W hb).c1, frozen_of_row W g 0 _ _ (HC.out W hb)⟩)
  clear h hX hY hZ HC
  go_enter Tryd.func79, Tryd.ntmps79
  go_wp2_with fail
  refine HS.out.mono ?_
  rintro e w1 ⟨rfl, hb1⟩
  obtain ⟨d0, d1, f0⟩ := HC0.out _ hb1
  have HG := Lib.hid (HF.out _ hb1)
  clear hb1 HC0 HF c0 c1
  go_wp2
  go_ret
  exact ⟨rfl, HG.out⟩
set_option maxHeartbeats 1000000 in
/-- A text is taken. -/
theorem ctext_any (g : Nat) (c : Cu) (w : World) (h : CurAt w g c) (hl : c.1.length ≤ 2199023255552) :
    Calls Tryd.prog 64 #[.pointer (some ⟨g, 0, none⟩), .int .i64 100000] w fun e w' => e = .returned (.string (bs (textC 100000 c).1)) ∧ CurAt w' g (textC 100000 c).2 ∧ w.grownBy w' (some g) := by
  have hbA : Below w.heap.size w (w.alloc (.cells #[.int .i64 100000] 3 (0, 0))) := (Below.refl _ _).alloc (Nat.le_refl _) _
  have hnew := heap_alloc_new w (.cells #[.int .i64 100000] 3 (0, 0))
  have HB := Lib.hid (show w.grownBy (w.alloc (.cells #[.int .i64 100000] 3 (0, 0))) (some g) from World.grownBy_alloc w _ _)
  have HT : Hid (Calls Tryd.prog 79 #[.pointer (some ⟨g, 0, none⟩), .func (Fn.func 80) #[] #[.pointer (some ⟨w.heap.size, 0, none⟩)]] (w.alloc (.cells #[.int .i64 100000] 3 (0, 0))) fun e w' => e = .returned (.string (bs (textC 100000 c).1)) ∧ CurAt w' g (textC 100000 c).2 ∧ (w.alloc (.cells #[.int .i64 100000] 3 (0, 0))).grownBy w' (some g)) := by
    refine Lib.hid ?_
    obtain ⟨l, bad⟩ := c
    cases bad with
    | true =>
      refine (ttk_bad g w.heap.size l _ (h.later hbA)).mono ?_
      rintro e w' ⟨rfl, rfl⟩
      exact ⟨rfl, h.later hbA, below_g (Below.refl _ _) _⟩
    | false =>
      cases hg : (textC 100000 (l, false)).2.2 with
      | true =>
        obtain ⟨e1, hS⟩ := tx_none l w.heap.size (w.alloc (.cells #[.int .i64 100000] 3 (0, 0))) (by rw [cell_of_row _ _ 0 _ _ _ hnew]; rfl) hl hg
        rw [e1]
        exact ttk_none g w.heap.size l _ (h.later hbA) hS
      | false =>
        obtain ⟨b, p, hp, e1, hS⟩ := tx_some l w.heap.size (w.alloc (.cells #[.int .i64 100000] 3 (0, 0))) (by rw [cell_of_row _ _ 0 _ _ _ hnew]; rfl) hl hg
        rw [e1]
        exact ttk_some g w.heap.size p l b _ (h.later hbA) hl hp hS
  clear h hbA hnew
  go_enter Tryd.func64, Tryd.ntmps64
  go_wp2_with fail
  refine HT.out.mono ?_
  rintro e w' ⟨rfl, h1, h2⟩
  go_wp2
  go_ret
  exact ⟨rfl, h1, g_trans HB.out h2⟩
theorem wideC_le (c : Cu) : (wideC c).2.1.length ≤ c.1.length := by
  unfold wideC; split
  · exact Nat.le_refl _
  · split
    · exact Nat.le_refl _
    · simp only [List.length_drop]; omega
theorem smallC_le (c : Cu) : (smallC c).2.1.length ≤ c.1.length := by
  unfold smallC; split
  · exact Nat.le_refl _
  · split
    · exact Nat.le_refl _
    · simp only [List.length_drop]; omega
theorem textC_le (m : Nat) (c : Cu) : (textC m c).2.1.length ≤ c.1.length := by
  unfold textC; split
  · exact Nat.le_refl _
  · split
    · exact Nat.le_refl _
    · split
      · exact Nat.le_refl _
      · simp only [List.length_drop]; omega
theorem wideC_lt (c : Cu) : (wideC c).1 < 18446744073709551616 := by
  unfold wideC; split
  · exact (by decide : (0 : Nat) < 18446744073709551616)
  · split
    · exact (by decide : (0 : Nat) < 18446744073709551616)
    · exact unw_8 _
end Go.Proofs.YtdidengokijcjaaDoor.ChW
/-
  chunk.getWide$1, getSmall$1: THE WALKS.
-/
namespace Go.Proofs.YtdidengokijcjaaDoor.ChW
set_option linter.unusedVariables false
open Go.RowKit FrM FrW StM ChM
/-- A variable in the block gb that holds the address of the block g. -/
def PtrAt (W : World) (gb g : Nat) : Prop := W.heap[gb]? = some (.cells #[.pointer (some ⟨g, 0, none⟩)] 61 (0, 0))
theorem PtrAt.c0 {W : World} {gb g : Nat} (h : PtrAt W gb g) : W.cell? ⟨gb, 0, none⟩ = some (.pointer (some ⟨g, 0, none⟩)) := by rw [cell_of_row W _ _ _ _ _ h]; rfl
theorem PtrAt.lt {W : World} {gb g : Nat} (h : PtrAt W gb g) : gb < W.heap.size := (Array.getElem?_eq_some_iff.1 h).1
theorem PtrAt.grown {W W' : World} {gb g : Nat} (h : PtrAt W gb g) (hne : gb ≠ g) (hb : W.grownBy W' (some g)) : PtrAt W' gb g := (hb.block gb h.lt (fun e => by injection e with e; exact hne e)).trans h
theorem old2 {w w1 w2 : World} {k g : Nat} {o : Obj} (h : w.heap[k]? = some o) (hne : k ≠ g) (h1 : w.grownBy w1 (some g)) (h2 : w1.grownBy w2 (some g)) : w2.heap[k]? = some o := by
  have z0 := (Array.getElem?_eq_some_iff.1 h).1
  have e1 := (h1.block _ z0 (fun e => hne (Option.some.inj e))).trans h
  have z1 := (Array.getElem?_eq_some_iff.1 e1).1
  exact (h2.block _ z1 (fun e => hne (Option.some.inj e))).trans e1
theorem info_sm : (Tryd.prog.info? 37).map (·.size) = some 2 := by kernel_rfl
theorem fin_row {w : World} {k : Nat} {a b : Value} (h : w.heap[k]? = some (.cells #[a, b] 37 (0, 0))) (v u : Int) : ((w.setCell ⟨k, 0, none⟩ (.int .i64 v)).setCell ⟨k, 1, none⟩ (.int .u64 u)).heap[k]? = some (.cells #[.int .i64 v, .int .u64 u] 37 (0, 0)) :=
  heap_setCell_same _ k 1 _ _ _ (heap_setCell_same w k 0 _ _ _ h)
theorem fin_cur {w : World} {k g : Nat} {c : Cu} (hne : k ≠ g) (h : CurAt w g c) (v u : Value) : CurAt ((w.setCell ⟨k, 0, none⟩ v).setCell ⟨k, 1, none⟩ u) g c :=
  (heap_setCell_other _ _ _ _ hne.symm).trans ((heap_setCell_other _ _ _ _ hne.symm).trans h)
theorem fin_grown {w w2 : World} {g : Nat} (h : w.grownBy w2 (some g)) (v u : Value) : w.grownBy ((w2.setCell ⟨w.heap.size, 0, none⟩ v).setCell ⟨w.heap.size, 1, none⟩ u) (some g) :=
  ⟨h.os, h.tape, h.output, by simpa using h.size, fun k hk hne => (heap_setCell_other _ _ _ _ (Nat.ne_of_lt hk)).trans ((heap_setCell_other _ _ _ _ (Nat.ne_of_lt hk)).trans (h.block k hk hne))⟩
theorem wrapE (x : Int) : IntKind.i64.wrap x = wrap64 x := by rw [IntKind.wrap_i64]; unfold wrap64; rfl
set_option maxRecDepth 20000 in
set_option maxHeartbeats 4000000 in
theorem oneW_any (gb g : Nat) (last : Int) (c : Cu) (w : World) (hp : PtrAt w gb g) (hne : gb ≠ g) (h : CurAt w g c) (hl : c.1.length ≤ 2199023255552) :
    Calls Tryd.prog 54 #[.int .i64 last, .pointer (some ⟨gb, 0, none⟩)] w fun e w' => e = .returned (.agg #[.int .i64 (oneW last c).1.1, .int .u64 (oneW last c).1.2]) ∧ CurAt w' g (oneW last c).2 ∧ w.grownBy w' (some g) := by
  unfold oneW
  simp only []
  have hw1 : IntKind.i64.wrap ((wideC c).1 : Int) = wrap64 ((wideC c).1 : Int) := wrapE _
  obtain ⟨W0, hW0⟩ : ∃ W0, w.alloc (.cells #[.int .i64 0, .int .u64 0] 37 (0, 0)) = W0 := ⟨_, rfl⟩
  have hbA : Below w.heap.size w W0.drew := by rw [← hW0]; exact ((Below.refl _ _).alloc (Nat.le_refl _) _).drew
  have K1 := Lib.hid (cwide_any g c W0.drew (h.later hbA) hl)
  have K2 : Hid (∀ W, CurAt W g (wideC c).2 → Calls Tryd.prog 53 #[.pointer (some ⟨g, 0, none⟩)] W fun e w' => e = .returned (.int .u64 ((wideC (wideC c).2).1 : Int)) ∧ CurAt w' g (wideC (wideC c).2).2 ∧ W.grownBy w' (some g)) := Lib.hid (fun W h2 => cwide_any g _ W h2 (Nat.le_trans (wideC_le c) hl))
  have hc0 : W0.cell? ⟨gb, 0, none⟩ = some (.pointer (some ⟨g, 0, none⟩)) := (PtrAt.grown hp hne (below_g hbA _)).c0
  have HN : Hid (W0.drew.heap[w.heap.size]? = some (.cells #[.int .i64 0, .int .u64 0] 37 (0, 0))) := Lib.hid (by rw [← hW0]; exact heap_alloc_new w _)
  have HZ : Hid (w.heap.size ≠ g ∧ gb < w.heap.size) := Lib.hid ⟨Nat.ne_of_gt h.lt, hp.lt⟩
  have HP := Lib.hid (PtrAt.grown hp hne (below_g hbA _))
  have HB := Lib.hid (below_g hbA (some g))
  go_enter Tryd.func54, Tryd.ntmps54
  generalize (wideC (wideC c).2) = c2 at *
  generalize wrap64 ((wideC c).1 : Int) = v1 at *
  generalize (wideC c) = c1 at *
  obtain ⟨n1, c1⟩ := c1
  obtain ⟨n2, c2⟩ := c2
  simp only [] at *
  go_wp2_with fail
  clear hW0 hp h hl hbA
  go_region_with (first
    | (go_at_call 53
       refine K1.out.mono ?_
       rintro e w1 ⟨rfl, hc1, hg1⟩
       have hp1 := (PtrAt.grown HP.out hne hg1).c0
       have HG1 := Lib.hid (And.intro hc1 hg1)
       clear hc1 hg1)
    | (go_at_call 53
       go_loud (refine (K2.out _ HG1.out.1).mono ?_)
       go_loud (rintro e w2 ⟨rfl, hc2, hg2⟩)
       go_loud (have hp2 := (PtrAt.grown (PtrAt.grown HP.out hne HG1.out.2) hne hg2).c0)
       go_loud (have HG2 := Lib.hid (And.intro hc2 hg2))
       have hn2 := old2 HN.out HZ.out.1 HG1.out.2 hg2
       have d0 : w2.cell? ⟨w.heap.size, 0, none⟩ = some (.int .i64 0) := by rw [cell_of_row w2 _ _ _ _ _ hn2]; rfl
       have d1 : w2.cell? ⟨w.heap.size, 1, none⟩ = some (.int .u64 0) := by rw [cell_of_row w2 _ _ _ _ _ hn2]; rfl
       have f0 : w2.frozen? ⟨w.heap.size, 0, none⟩ = false := frozen_of_row w2 _ 0 _ _ hn2
       have f1 : w2.frozen? ⟨w.heap.size, 1, none⟩ = false := frozen_of_row w2 _ 1 _ _ hn2
       have HN2 := Lib.hid hn2
       clear hn2
       clear hc2 hg2))
  all_goals
    have HF := Lib.hid (fin_row HN2.out v1 (n2 : Int))
    have HC := Lib.hid (fin_cur HZ.out.1 HG2.out.1 (.int .i64 v1) (.int .u64 (n2 : Int)))
    have HG := Lib.hid (fin_grown (w := w) (g_trans HB.out (g_trans HG1.out.2 HG2.out.2)) (.int .i64 v1) (.int .u64 (n2 : Int)))
    go_wp2_with fail
    exact bodyPost_ret (v := .agg #[.int .i64 v1, .int .u64 (n2 : Int)]) (results_cell_row (Tryd.results54) _ _ w.heap.size 37 _ (0, 0) _ rfl HF.out Tryd.underlying37 rfl info_sm) rfl ⟨rfl, HC.out, HG.out⟩
end Go.Proofs.YtdidengokijcjaaDoor.ChW
