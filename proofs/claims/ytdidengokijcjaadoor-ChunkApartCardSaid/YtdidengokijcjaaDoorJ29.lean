/-
  chunk.Get: THE WALK, joined.
  chunk.Get: what it hands back, for every generation.
  chunk.Turn: THE WALK.
  chunk.Smallest: THE WALK.
  alluviumlaw11.works: THE WALK.
-/
import Derived.Test.YtdidengokijcjaaDoorJ28
import Derived.Test.YtdidengokijcjaaDoorJ25
/-
  chunk.Get: THE WALK, joined.
-/
namespace Go.Proofs.YtdidengokijcjaaDoor.ChW
set_option linter.unusedVariables false
open Go.RowKit FrM FrW StM ChM LabW BitsM BitsW
theorem comes_nil (w : World) : Comes w 2 encS okS none 0 0 ([] : List Sm) := by
  obtain ⟨A, c, h1, h2, h3⟩ := Comes.of_own (l := ([] : List Sm)) (encA := encS) (okA := okS) (World.ownsRow_nil w 0 37 2) (fun _ => rfl) (by decide) (fun x hx => absurd hx List.not_mem_nil)
  injection h1 with e1 e2 e3
  subst e1 e3
  exact h3
def GetAns (gen : Int) (l : Txt) (w : World) (e : Ending) (w' : World) : Prop := ∃ A m cp, e = .returned (.tuple #[.slice A m cp, .int .i64 (readC gen l).2]) ∧ Comes w' 2 encS okS A m cp (readC gen l).1 ∧ Below w.heap.size w w'
theorem get_none {gen : Int} {l : Txt} {w w' : World} {x : Int} (h : readC gen l = ([], x)) (hb : Below w.heap.size w w') : GetAns gen l w (.returned (.tuple #[.slice none 0 0, .int .i64 x])) w' := by
  refine ⟨none, 0, 0, ?_, ?_, hb⟩
  · rw [h]
  · rw [h]; exact comes_nil w'
set_option maxRecDepth 20000 in
set_option maxHeartbeats 2000000 in
theorem get_bad1 (gen : Int) (l : Txt) (w : World) (hg : ¬ (1 ≤ gen ∧ gen ≤ 3)) :
    Calls Tryd.prog 11 #[.string (bs l), .int .i64 gen] w (GetAns gen l w) := by
  have hof : ofV gen = .tuple #[.agg #[.nilFunc, .nilFunc], .bool false] := by unfold ofV; rw [if_neg hg]
  have HR := Lib.hid (show readC gen l = ([], 1) by unfold readC; rw [if_pos hg])
  generalize bs l = X
  go_enter Tryd.func11, Tryd.ntmps11
  go_wp2_with fail
  refine (of_any gen _).mono ?_
  rintro e w1 ⟨rfl, hb1⟩
  rw [hof]
  have HB := Lib.hid (hb1.alloc hb1.size (.cells #[.nilFunc, .nilFunc] 42 (0, 0)))
  clear hb1
  go_wp2_with fail
  exact bodyPost_ret (v := .tuple #[.slice none 0 0, .int .i64 1]) (by simp [results, Tryd.results11, go_sem]) rfl (get_none HR.out HB.out)
set_option maxRecDepth 20000 in
set_option maxHeartbeats 2000000 in
theorem get_bad2 (gen : Int) (k k2 : Nat) (l : Txt) (w : World) (hl : l.length ≤ 1000000) (hg : 1 ≤ gen ∧ gen ≤ 3) (hof : ofV gen = .tuple #[.agg #[.func (Fn.func k) #[] #[], .func (Fn.func k2) #[] #[]], .bool true]) (hb : ¬ goodL l) :
    Calls Tryd.prog 11 #[.string (bs l), .int .i64 gen] w (GetAns gen l w) := by
  have HR := Lib.hid (show readC gen l = ([], 9) by unfold readC; rw [if_neg (fun h => h hg), if_pos (Classical.byContradiction hb)])
  have KG := Lib.hid (fun W => cbad_any l W hl hb)
  clear hg hb
  generalize bs l = X at *
  go_enter Tryd.func11, Tryd.ntmps11
  go_wp2_with fail
  refine (of_any gen _).mono ?_
  rintro e w1 ⟨rfl, hb1⟩
  rw [hof]
  have HB := Lib.hid (hb1.alloc hb1.size (.cells #[.func (Fn.func k) #[] #[], .func (Fn.func k2) #[] #[]] 42 (0, 0)))
  clear hb1
  go_wp2_with fail
  refine (KG.out _).mono ?_
  rintro e w2 ⟨rfl, hb2⟩
  have HB2 := Lib.hid (later HB.out hb2)
  clear hb2
  go_wp2_with fail
  exact bodyPost_ret (v := .tuple #[.slice none 0 0, .int .i64 9]) (by simp [results, Tryd.results11, go_sem]) rfl (get_none HR.out HB2.out)
set_option maxRecDepth 20000 in
set_option maxHeartbeats 4000000 in
theorem get_go (gen : Int) (k k2 : Nat) (l : Txt) (w : World) (hl : l.length ≤ 1000000) (hT : Tab w) (hg : 1 ≤ gen ∧ gen ≤ 3) (hof : ofV gen = .tuple #[.agg #[.func (Fn.func k) #[] #[], .func (Fn.func k2) #[] #[]], .bool true]) (hb : goodL l)
    (hk : ∀ (xs : Array Value) (W : World), (callFunc k2 xs).run Tryd.prog W = .ok (.enter k2 xs) W)
    (K : ∀ (W : World) (g : Nat) (b : Txt), CurAt W g (b, false) → b.length ≤ 2199023255552 → Tab W → Calls Tryd.prog k2 #[.pointer (some ⟨g, 0, none⟩)] W fun e w' => ∃ A m cp, e = .returned (.slice A m cp) ∧ Comes w' 2 encS okS A m cp (getC gen b).1 ∧ CurAt w' g (getC gen b).2 ∧ W.grownBy w' (some g)) :
    Calls Tryd.prog 11 #[.string (bs l), .int .i64 gen] w (GetAns gen l w) := by
  obtain ⟨b, hbd⟩ : ∃ b, l.take (l.length - 4) = b := ⟨_, rfl⟩
  have hbl : b.length ≤ 2199023255552 := by rw [← hbd, List.length_take]; omega
  have HR := Lib.hid (show readC gen l = if (getC gen b).2.2 = true ∨ (getC gen b).2.1 ≠ [] ∨ 200 < (getC gen b).1.length ∨ ChM.sorted (getC gen b).1 = false then ([], 9) else ((getC gen b).1, 0) by unfold readC; rw [if_neg (fun h => h hg), if_neg hb, hbd])
  have KG := Lib.hid (fun W => cgood_any l W hl hb)
  rw [hbd] at KG
  have KK := Lib.hid (fun W g h h2 => K W g b h hbl h2)
  have HT := Lib.hid hT
  clear hg hb hbd hbl K hT
  generalize getC gen b = RC at *
  obtain ⟨R, C⟩ := RC
  simp only [] at HR KK
  generalize bs l = X at *
  have HBS : Hid (∃ Y, bs b = Y) := Lib.hid ⟨_, rfl⟩
  go_enter Tryd.func11, Tryd.ntmps11
  go_wp2_with fail
  refine (of_any gen _).mono ?_
  rintro e w1 ⟨rfl, hb1⟩
  rw [hof]
  have hn1 := heap_alloc_new w1 (.cells #[.func (Fn.func k) #[] #[], .func (Fn.func k2) #[] #[]] 42 (0, 0))
  have HB := Lib.hid (And.intro (hb1.alloc hb1.size (.cells #[.func (Fn.func k) #[] #[], .func (Fn.func k2) #[] #[]] 42 (0, 0))) hn1)
  clear hb1 hn1
  go_wp2_with fail
  refine (KG.out _).mono ?_
  rintro e w2 ⟨rfl, hb2⟩
  have h5 := (hb2.block w1.heap.size (by simp)).trans HB.out.2
  have h6 : (w2.alloc (.cells #[.string (bs b), .bool false] 60 (0, 0))).cell? ⟨w1.heap.size, 1, none⟩ = some (.func (Fn.func k2) #[] #[]) := by
    rw [cell_of_row _ _ _ _ _ _ ((Below.heap_alloc w2 _ _ (Array.getElem?_eq_some_iff.1 h5).1).trans h5)]; rfl
  have hz2 := (later HB.out.1 hb2).size
  have HB2 := Lib.hid (later HB.out.1 hb2)
  clear hb2 h5
  go_wp2_with fail
  refine (KK.out _ _ (heap_alloc_new w2 _) (HT.out.later (HB2.out.alloc hz2 _))).mono ?_
  rintro e w4 ⟨A, m, cp, rfl, hC, hcu, hg4⟩
  have HB4 := Lib.hid ((HB2.out.alloc hz2 _).trans (g_below hg4 hz2 (by simp; omega)))
  have H4 := Lib.hid (And.intro hC hcu)
  have hm : R.length = m := hC.len
  clear hC hcu hg4 h6
  go_wp2_with fail
  refine (cdone_any _ C w4 H4.out.2).mono ?_
  rintro e w5 ⟨rfl, rfl⟩
  have HR2 : Hid (∀ x : Prop, (C.2 = true ∨ C.1 ≠ [] ∨ 200 < R.length ∨ ChM.sorted R = false) → readC gen l = ([], 9)) := Lib.hid (fun _ h => by rw [HR.out, if_pos h])
  cases hD : (decide (C.1 = []) && !C.2) with
  | false =>
    have hX : readC gen l = ([], 9) := HR2.out True (by
      by_cases h1 : C.2 = true
      · exact .inl h1
      · refine .inr (.inl (fun h2 => ?_))
        rw [h2, Bool.eq_false_iff.2 h1] at hD
        cases hD)
    have HX := Lib.hid hX
    clear hD hX
    go_wp2_with fail
    exact bodyPost_ret (v := .tuple #[.slice none 0 0, .int .i64 9]) (by simp [results, Tryd.results11, go_sem]) rfl (get_none HX.out HB4.out)
  | true =>
    have HD : Hid (C.1 = [] ∧ C.2 = false) := Lib.hid (by simpa using hD)
    clear hD
    by_cases h200 : 200 < m
    · have HX := Lib.hid (HR2.out True (.inr (.inr (.inl (by omega)))))
      go_wp2_with fail
      exact bodyPost_ret (v := .tuple #[.slice none 0 0, .int .i64 9]) (by simp [results, Tryd.results11, go_sem]) rfl (get_none HX.out HB4.out)
    · have h201 : ¬ (200 : Int) < (m : Int) := by omega
      go_wp2_with fail
      refine (sorted_any A m cp R w5 H4.out.1).mono ?_
      rintro e w6 ⟨rfl, hb6⟩
      have HB6 := Lib.hid (later HB4.out hb6)
      have HC6 := Lib.hid (H4.out.1.later hb6)
      clear hb6
      cases hs : LabW.sortedL R with
      | false =>
        have HX := Lib.hid (HR2.out True (.inr (.inr (.inr (by rw [← sorted_eq]; exact hs)))))
        clear hs
        go_wp2_with fail
        exact bodyPost_ret (v := .tuple #[.slice none 0 0, .int .i64 9]) (by simp [results, Tryd.results11, go_sem]) rfl (get_none HX.out HB6.out)
      | true =>
        have HX : Hid (readC gen l = (R, 0)) := Lib.hid (by
          rw [HR.out, if_neg]
          rintro (h | h | h | h)
          · rw [HD.out.2] at h; cases h
          · exact h HD.out.1
          · omega
          · rw [← sorted_eq, hs] at h; cases h)
        clear hs
        go_wp2_with fail
        exact bodyPost_ret (v := .tuple #[.slice A m cp, .int .i64 0]) (by simp [results, Tryd.results11, go_sem]) rfl ⟨A, m, cp, by rw [HX.out], by rw [HX.out]; exact HC6.out, HB6.out⟩
end Go.Proofs.YtdidengokijcjaaDoor.ChW
/-
  chunk.Get: what it hands back, for every generation.
-/
namespace Go.Proofs.YtdidengokijcjaaDoor.ChW
set_option linter.unusedVariables false
open Go.RowKit FrM FrW StM ChM LabW BitsM BitsW
/-- chunk.Get: the samples that bytes are. -/
theorem get_any (gen : Int) (l : Txt) (w : World) (hl : l.length ≤ 1000000) (hT : Tab w) :
    Calls Tryd.prog 11 #[.string (bs l), .int .i64 gen] w (GetAns gen l w) := by
  by_cases hg : 1 ≤ gen ∧ gen ≤ 3
  · by_cases hb : goodL l
    · rcases (by omega : gen = 1 ∨ gen = 2 ∨ gen = 3) with rfl | rfl | rfl
      · exact get_go 1 36 37 l w hl hT hg rfl hb (entersC Tryd.func37 (by kernel_rfl) (by kernel_rfl)) (fun W g b h1 h2 _ => getW_any g (b, false) W h1 h2)
      · exact get_go 2 38 39 l w hl hT hg rfl hb (entersC Tryd.func39 (by kernel_rfl) (by kernel_rfl)) (fun W g b h1 h2 _ => getS_any g (b, false) W h1 h2)
      · exact get_go 3 40 41 l w hl hT hg rfl hb (entersC Tryd.func41 (by kernel_rfl) (by kernel_rfl)) (fun W g b h1 h2 h3 => getB_any g (b, false) W h1 h2 h3)
    · rcases (by omega : gen = 1 ∨ gen = 2 ∨ gen = 3) with rfl | rfl | rfl
      · exact get_bad2 1 _ _ l w hl hg rfl hb
      · exact get_bad2 2 _ _ l w hl hg rfl hb
      · exact get_bad2 3 _ _ l w hl hg rfl hb
  · exact get_bad1 gen l w hg
end Go.Proofs.YtdidengokijcjaaDoor.ChW
/-
  chunk.Turn: THE WALK.
-/
namespace Go.Proofs.YtdidengokijcjaaDoor.ChW
set_option linter.unusedVariables false
open Go.RowKit FrM FrW StM ChM LabW BitsM BitsW
/-- Bytes of one generation as those of another one. -/
def turnC (a b : Int) (l : Txt) : Txt × Int := if (readC a l).2 = 0 then putC b (readC a l).1 else ([], (readC a l).2)
set_option maxRecDepth 20000 in
set_option maxHeartbeats 2000000 in
theorem turn_any (a b : Int) (l : Txt) (w : World) (hl : l.length ≤ 1000000) (hT : Tab w) :
    Calls Tryd.prog 15 #[.string (bs l), .int .i64 a, .int .i64 b] w fun e w' => e = .returned (.tuple #[.string (bs (turnC a b l).1), .int .i64 (turnC a b l).2]) ∧ Below w.heap.size w w' := by
  have K1 := Lib.hid (get_any a l w hl hT)
  have HT := Lib.hid hT
  have HC : Hid (turnC a b l = if (readC a l).2 = 0 then putC b (readC a l).1 else ([], (readC a l).2)) := Lib.hid rfl
  unfold GetAns at K1
  generalize turnC a b l = TC at *
  generalize readC a l = RC at *
  obtain ⟨R, x⟩ := RC
  simp only [] at K1 HC
  generalize bs l = X at *
  clear hT hl
  by_cases hx : x = 0
  · subst hx
    rw [if_pos rfl] at HC
    have KP := Lib.hid (fun A m cp W (h1 : Comes W 2 encS okS A m cp R) h2 => put_any b A m cp R W h1 h2)
    rw [← HC.out] at KP
    clear HC
    go_enter Tryd.func15, Tryd.ntmps15
    go_wp2_with fail
    refine K1.out.mono ?_
    rintro e w1 ⟨A, m, cp, rfl, hC, hb1⟩
    have H1 := Lib.hid (And.intro hC hb1)
    clear hC hb1
    go_wp2_with fail
    refine (KP.out A m cp _ H1.out.1 (HT.out.later H1.out.2)).mono ?_
    rintro e w2 ⟨rfl, hb2⟩
    have H2 := Lib.hid (later H1.out.2 hb2)
    clear hb2
    go_wp2_with fail
    exact bodyPost_ret (v := .tuple #[.string (bs TC.1), .int .i64 TC.2]) (by simp [results, Tryd.results15, go_sem]) rfl ⟨rfl, H2.out⟩
  · rw [if_neg hx] at HC
    have hTC : TC = ([], x) := HC.out
    subst hTC
    clear HC
    go_enter Tryd.func15, Tryd.ntmps15
    go_wp2_with fail
    refine K1.out.mono ?_
    rintro e w1 ⟨A, m, cp, rfl, hC, hb1⟩
    have H1 := Lib.hid (And.intro hC hb1)
    clear hC hb1
    have hx2 : (x != 0) = true := by simpa using hx
    go_wp2_with fail
    exact bodyPost_ret (v := .tuple #[.string ⟨#[]⟩, .int .i64 x]) (by simp [results, Tryd.results15, go_sem]) rfl ⟨rfl, H1.out.2⟩
end Go.Proofs.YtdidengokijcjaaDoor.ChW
/-
  chunk.Smallest: THE WALK.
-/
namespace Go.Proofs.YtdidengokijcjaaDoor.ChW
set_option linter.unusedVariables false
open Go.RowKit FrM FrW StM ChM LabW BitsM BitsW
/-- One generation more: is it smaller? -/
def stepB (l : List Sm) (b : Int × Nat) (g : Nat) : Int × Nat := if (putC g l).2 = 0 ∧ (b.1 = 0 ∨ (putC g l).1.length < b.2) then ((g : Int), (putC g l).1.length) else b
def bstS (l : List Sm) : Nat → Int × Nat
  | 0 => (0, 0)
  | k + 1 => stepB l (bstS l k) (3 - k)
def smallestC (l : List Sm) : Int := (bstS l 3).1
theorem putC_len (g : Int) (l : List Sm) : (putC g l).1.length ≤ 100004 := by
  unfold putC
  by_cases h : may g l = true
  · rw [if_pos h]
    have h' := h
    unfold may at h'
    simp only [Bool.and_eq_true, decide_eq_true_eq] at h'
    obtain ⟨⟨⟨h1, h2⟩, -⟩, h4⟩ := h'
    show (body g l ++ CrcM.ctail (body g l)).length ≤ _
    rw [List.length_append, CrcM.ctail_length]
    rcases (by omega : g = 1 ∨ g = 2 ∨ g = 3) with rfl | rfl | rfl
    · have := wS_le h4; omega
    · have := sS_le h4; omega
    · have := bB_le h4; omega
  · rw [if_neg h]; exact Nat.zero_le _
theorem putC_2 (g : Int) (l : List Sm) : (putC g l).2 = 0 ∨ (putC g l).2 = 1 := by unfold putC; split <;> simp
theorem bstS_le (l : List Sm) : ∀ k, k ≤ 3 → 0 ≤ (bstS l k).1 ∧ (bstS l k).1 ≤ 3 ∧ (bstS l k).2 ≤ 100004
  | 0, _ => by simp [bstS]
  | k + 1, h => by
    have := bstS_le l k (by omega)
    unfold bstS stepB
    split
    · exact ⟨by simp only []; omega, by simp only []; omega, putC_len _ _⟩
    · exact this
set_option maxRecDepth 20000 in
set_option maxHeartbeats 2000000 in
theorem smallest_any (A : Option Addr) (n c : Nat) (l : List Sm) (w : World) (hl : Comes w 2 encS okS A n c l) (hT : Tab w) :
    Calls Tryd.prog 14 #[.slice A n c] w fun e w' => e = .returned (.int .i64 (smallestC l)) ∧ Below w.heap.size w w' := by
  have HL := Lib.hid hl
  have HT := Lib.hid hT
  clear hl hT
  go_enter Tryd.func14, Tryd.ntmps14
  go_wp2_with fail
  refine (forms_any _).mono ?_
  rintro e w1 ⟨rfl, hb1⟩
  have HB1 := Lib.hid hb1
  clear hb1
  go_wp2_with fail
  go_loopw [3, 4, 5] (fun v3 v4 v5 wr => ∃ k : Nat, k ≤ 3 ∧ v5 = .int .i64 ((3 - k : Nat) : Int) ∧ v3 = .int .i64 (bstS l k).1 ∧ v4 = .int .i64 ((bstS l k).2 : Int) ∧ Below w.heap.size w wr) (fun _ _ v5 _ => (intOf v5).toNat)
  case atStart => exact ⟨0, by omega, rfl, rfl, rfl, HB1.out⟩
  case round =>
    obtain ⟨k, hk, rfl, rfl, rfl, ho⟩ := hrel
    have HO := Lib.hid ho
    clear ho
    have hbst := bstS_le l k hk
    have HE : Hid (k < 3 → bstS l (k + 1) = stepB l (bstS l k) (3 - k)) := Lib.hid (fun _ => rfl)
    generalize hbk : bstS l k = bk at *
    obtain ⟨b1, s1⟩ := bk
    obtain ⟨hb0, hb3, hs3⟩ := hbst
    simp only [] at hb0 hb3 hs3
    by_cases hk3 : k < 3
    · obtain ⟨g, hg⟩ : ∃ g : Nat, 3 - k = g := ⟨_, rfl⟩
      have hg1 : 1 ≤ g := by omega
      have hg3 : g ≤ 3 := by omega
      have HK := Lib.hid (And.intro hk3 hg)
      rw [hg] at HE
      rw [hg]
      have hpl := putC_len g l
      have hp2 := putC_2 g l
      have KP : Hid (∀ W, Below w.heap.size w W → Calls Tryd.prog 9 #[.slice A n c, .int .i64 (g : Int)] W fun e w' => e = .returned (.tuple #[.string (bs (putC g l).1), .int .i64 (putC g l).2]) ∧ Below W.heap.size W w') := Lib.hid (fun W h => put_any g A n c l W (HL.out.later h) (HT.out.later h))
      unfold stepB at HE
      generalize putC (g : Int) l = pc at *
      obtain ⟨p, e⟩ := pc
      simp only [] at hpl hp2 KP HE
      clear hk3 hg hbk
      have hszp := bs_size p
      go_wp2_with fail
      refine (KP.out _ HO.out).mono ?_
      rintro e' w2 ⟨rfl, hb2⟩
      have HB2 := Lib.hid (later HO.out hb2)
      clear hb2
      rcases hp2 with rfl | rfl
      · by_cases hb : b1 = 0
        · subst hb
          have HS : Hid (bstS l (k + 1) = ((g : Int), p.length)) := Lib.hid (by rw [HE.out HK.out.1, if_pos ⟨rfl, .inl rfl⟩])
          clear HE
          go_wp2_with fail
          go_roundw
          case rel => exact ⟨k + 1, by have := HK.out; omega, by have := HK.out; go_num, by rw [HS.out], by rw [HS.out], HB2.out⟩
          case measure => have := HK.out; simp [intOf]; omega
        · by_cases hlt : p.length < s1
          · have HS : Hid (bstS l (k + 1) = ((g : Int), p.length)) := Lib.hid (by rw [HE.out HK.out.1, if_pos ⟨rfl, .inr hlt⟩])
            clear HE
            go_wp2_with fail
            go_roundw
            case rel => exact ⟨k + 1, by have := HK.out; omega, by have := HK.out; go_num, by rw [HS.out], by rw [HS.out], HB2.out⟩
            case measure => have := HK.out; simp [intOf]; omega
          · have HS : Hid (bstS l (k + 1) = (b1, s1)) := Lib.hid (by rw [HE.out HK.out.1, if_neg (fun h => h.2.elim hb hlt)])
            clear HE
            go_wp2_with fail
            go_roundw
            case rel => exact ⟨k + 1, by have := HK.out; omega, by have := HK.out; go_num, by rw [HS.out], by rw [HS.out], HB2.out⟩
            case measure => have := HK.out; simp [intOf]; omega
      · have HS : Hid (bstS l (k + 1) = (b1, s1)) := Lib.hid (by rw [HE.out HK.out.1, if_neg (fun h => by have := h.1; omega)])
        clear HE
        go_wp2_with fail
        go_roundw
        case rel => exact ⟨k + 1, by have := HK.out; omega, by have := HK.out; go_num, by rw [HS.out], by rw [HS.out], HB2.out⟩
        case measure => have := HK.out; simp [intOf]; omega
    · have hk3 : k = 3 := by omega
      subst hk3
      have HR : Hid (smallestC l = b1) := Lib.hid (by unfold smallestC; rw [hbk])
      clear hbk HE
      go_wp2_with fail
      exact bodyPost_ret (v := .int .i64 b1) (by simp [results, Tryd.results14, go_sem]) rfl ⟨by rw [HR.out], HO.out⟩
end Go.Proofs.YtdidengokijcjaaDoor.ChW
/-
  alluviumlaw11.works: THE WALK.
-/
namespace Go.Proofs.YtdidengokijcjaaDoor.ChW
set_option linter.unusedVariables false
open Go.RowKit FrM FrW StM ChM LabW BitsM BitsW
def exL : List Sm := [(1000, 7), (1010, 7), (1020, 9)]
def exC : Txt := [3, 10, 0, 0, 0, 0, 0, 0, 3, 232, 164, 128, 11, 0, 0, 0, 0, 0, 0, 0, 7, 126, 5, 192, 32, 162, 56, 199]
theorem ex_ok : ∀ x ∈ exL, okS x := by unfold exL okS; simp
theorem ex_vals : putC 2 [] = ([0, 81, 83, 125, 82], 0) ∧ (putC 1 exL).2 = 0 ∧ (putC 1 exL).1.length = 60 ∧ turnC 1 3 (putC 1 exL).1 = (exC, 0) ∧ readC 3 exC = (exL, 0) ∧ readC 2 exC = ([], 9) ∧ putC 4 exL = ([], 1) ∧ smallestC exL = 3 := by decide +kernel
set_option maxRecDepth 20000 in
set_option maxHeartbeats 4000000 in
theorem works_any (w : World) (hT : Tab w) : Calls Tryd.prog 8 #[] w fun e w' => e = .returned (.bool true) ∧ Below w.heap.size w w' := by
  have HTT : Hid (∀ W, Below w.heap.size w W → Tab W) := Lib.hid fun W h => hT.later h
  obtain ⟨v1, v2, v2l, v3, v4, v5, v6, v7⟩ := ex_vals
  have K1 : Hid (∀ W, Tab W → Calls Tryd.prog 9 #[.slice none 0 0, .int .i64 2] W fun e w' => e = .returned (.tuple #[.string ⟨#[0, 81, 83, 125, 82]⟩, .int .i64 0]) ∧ Below W.heap.size W w') := Lib.hid (fun W h => by have := put_any 2 none 0 0 [] W (comes_nil W) h; rw [v1] at this; exact this)
  have K2 : Hid (∀ W A, Comes W 2 encS okS A 3 3 exL → Tab W → Calls Tryd.prog 9 #[.slice A 3 3, .int .i64 1] W fun e w' => e = .returned (.tuple #[.string (bs (putC 1 exL).1), .int .i64 0]) ∧ Below W.heap.size W w') := Lib.hid (fun W A hc h => by have := put_any 1 A 3 3 exL W hc h; rw [v2] at this; exact this)
  have K3 : Hid (∀ W, Tab W → Calls Tryd.prog 15 #[.string (bs (putC 1 exL).1), .int .i64 1, .int .i64 3] W fun e w' => e = .returned (.tuple #[.string (bs exC), .int .i64 0]) ∧ Below W.heap.size W w') := Lib.hid (fun W h => by have := turn_any 1 3 (putC 1 exL).1 W (by rw [v2l]; omega) h; rw [v3] at this; exact this)
  have K4 : Hid (∀ W, Tab W → Calls Tryd.prog 11 #[.string (bs exC), .int .i64 3] W fun e w' => ∃ A m c, e = .returned (.tuple #[.slice A m c, .int .i64 0]) ∧ Comes w' 2 encS okS A m c exL ∧ Below W.heap.size W w') := Lib.hid (fun W h => by have := get_any 3 exC W (by unfold exC; simp) h; unfold GetAns at this; rw [v4] at this; exact this)
  have K5 : Hid (∀ W, Tab W → Calls Tryd.prog 11 #[.string (bs exC), .int .i64 2] W fun e w' => ∃ A m c, e = .returned (.tuple #[.slice A m c, .int .i64 9]) ∧ Comes w' 2 encS okS A m c [] ∧ Below W.heap.size W w') := Lib.hid (fun W h => by have := get_any 2 exC W (by unfold exC; simp) h; unfold GetAns at this; rw [v5] at this; exact this)
  have K6 : Hid (∀ W A, Comes W 2 encS okS A 3 3 exL → Tab W → Calls Tryd.prog 9 #[.slice A 3 3, .int .i64 4] W fun e w' => e = .returned (.tuple #[.string ⟨#[]⟩, .int .i64 1]) ∧ Below W.heap.size W w') := Lib.hid (fun W A hc h => by have := put_any 4 A 3 3 exL W hc h; rw [v6] at this; exact this)
  have K7 : Hid (∀ W A, Comes W 2 encS okS A 3 3 exL → Tab W → Calls Tryd.prog 14 #[.slice A 3 3] W fun e w' => e = .returned (.int .i64 3) ∧ Below W.heap.size W w') := Lib.hid (fun W A hc h => by have := smallest_any A 3 3 exL W hc h; rw [v7] at this; exact this)
  have hs1 : (bs (putC 1 exL).1).size = 60 := by rw [bs_size]; exact v2l
  have hs2 : (bs exC).size = 28 := rfl
  have HX : Hid (∀ (W : World) (g : Nat), W.heap[g]? = some (.cells #[.int .i64 1000, .int .u64 7, .int .i64 1010, .int .u64 7, .int .i64 1020, .int .u64 9] 37 (0, 0)) → Comes W 2 encS okS (some ⟨g, 0, none⟩) 3 3 exL) := Lib.hid (fun W g h => Comes.block h rfl (fun _ => rfl) rfl (Nat.le_refl _) (by decide) ex_ok)
  obtain ⟨P1, hP1⟩ : ∃ P, bs (putC 1 exL).1 = P := ⟨_, rfl⟩
  obtain ⟨Q, hQ⟩ : ∃ P, bs exC = P := ⟨_, rfl⟩
  rw [hP1] at K2 K3 hs1
  rw [hQ] at K3 K4 K5 hs2
  clear v1 v2 v2l v3 v4 v5 v6 v7 hP1 hQ hT
  go_enter Tryd.func8, Tryd.ntmps8
  go_wp2_with fail
  refine (K1.out _ (HTT.out _ (Below.refl _ _))).mono ?_
  rintro e w1 ⟨rfl, hb1⟩
  have HB := Lib.hid (And.intro hb1 trivial)
  clear hb1
  go_wp2_with fail
  obtain ⟨w2, hw2⟩ : ∃ w2, w1.alloc (.cells #[.int .i64 1000, .int .u64 7, .int .i64 1010, .int .u64 7, .int .i64 1020, .int .u64 9] 37 (0, 0)) = w2 := ⟨_, rfl⟩
  have hL := HX.out w2 w1.heap.size (by rw [← hw2]; exact heap_alloc_new w1 _)
  have hB2 : Below w.heap.size w w2 := by rw [← hw2]; exact HB.out.1.alloc HB.out.1.size _
  change Calls _ _ _ (w1.alloc (.cells #[.int .i64 1000, .int .u64 7, .int .i64 1010, .int .u64 7, .int .i64 1020, .int .u64 9] 37 (0, 0))) _
  rw [hw2]
  obtain ⟨g, hg⟩ : ∃ g, w1.heap.size = g := ⟨_, rfl⟩
  rw [hg] at hL
  rw [hg]
  have HL := Lib.hid hL
  replace HB := Lib.hid (And.intro hB2 trivial)
  clear hL hB2 hw2 hg HX
  refine (K2.out _ _ HL.out (HTT.out _ HB.out.1)).mono ?_
  rintro e w3 ⟨rfl, hb1⟩
  replace HB := Lib.hid (And.intro (later HB.out.1 hb1) trivial)
  replace HL := Lib.hid (HL.out.later hb1)
  clear hb1
  go_wp2_with fail
  refine (K3.out _ (HTT.out _ HB.out.1)).mono ?_
  rintro e w4 ⟨rfl, hb1⟩
  replace HB := Lib.hid (And.intro (later HB.out.1 hb1) trivial)
  replace HL := Lib.hid (HL.out.later hb1)
  clear hb1
  go_wp2_with fail
  refine (K4.out _ (HTT.out _ HB.out.1)).mono ?_
  rintro e w5 ⟨A2, m2, c2, rfl, hc2, hb1⟩
  replace HB := Lib.hid (And.intro (later HB.out.1 hb1) trivial)
  replace HL := Lib.hid (HL.out.later hb1)
  have HM := Lib.hid hc2
  clear hb1 hc2
  go_wp2_with fail
  refine (K5.out _ (HTT.out _ HB.out.1)).mono ?_
  rintro e w6 ⟨A3, m3, c3, rfl, hc3, hb1⟩
  replace HB := Lib.hid (And.intro (later HB.out.1 hb1) trivial)
  replace HL := Lib.hid (HL.out.later hb1)
  replace HM := Lib.hid (HM.out.later hb1)
  clear hb1 hc3
  go_wp2_with fail
  refine (K6.out _ _ HL.out (HTT.out _ HB.out.1)).mono ?_
  rintro e w7 ⟨rfl, hb1⟩
  replace HB := Lib.hid (And.intro (later HB.out.1 hb1) trivial)
  replace HL := Lib.hid (HL.out.later hb1)
  replace HM := Lib.hid (HM.out.later hb1)
  clear hb1
  go_wp2_with fail
  refine (rsame_any _ 3 3 exL A2 m2 c2 exL _ HL.out HM.out).mono ?_
  rw [decide_eq_true (rfl : exL = exL)]
  rintro e w8 ⟨rfl, hb1⟩
  replace HB := Lib.hid (And.intro (later HB.out.1 hb1) trivial)
  replace HL := Lib.hid (HL.out.later hb1)
  clear hb1 HM
  go_wp2_with fail
  refine (K7.out _ _ HL.out (HTT.out _ HB.out.1)).mono ?_
  rintro e w9 ⟨rfl, hb1⟩
  replace HB := Lib.hid (And.intro (later HB.out.1 hb1) trivial)
  clear hb1
  go_wp2_with fail
  go_ret
  exact ⟨rfl, HB.out.1⟩
end Go.Proofs.YtdidengokijcjaaDoor.ChW
