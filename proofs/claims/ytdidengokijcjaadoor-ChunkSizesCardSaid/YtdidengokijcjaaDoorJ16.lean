/-
  VALUES AS BITS: THE SMALL FUNCTIONS, WALKED.
  VALUES AS BITS: Put, Cost, WALKED.
-/
import Derived.Test.YtdidengokijcjaaDoorJ05
import Derived.Test.YtdidengokijcjaaDoorJ10
import Derived.Test.YtdidengokijcjaaDoorJ15
import Derived.Laws.Bits64
/-
  VALUES AS BITS: THE SMALL FUNCTIONS, WALKED.
-/
namespace Go.Proofs.YtdidengokijcjaaDoor.VaW
set_option linter.unusedVariables false
open Go.RowKit Go.Shelf BitsM BitsW VaM
def VaObj (s : Sv) : Obj := .cells #[.int .i64 (s.1 : Int), .int .u64 (s.2.1 : Int), .int .i64 (s.2.2.1 : Int), .int .i64 (s.2.2.2 : Int)] 106 (0, 0)
def VaAt (W : World) (g : Nat) (s : Sv) : Prop := W.heap[g]? = some (VaObj s)
theorem VaAt.c0 {W : World} {g : Nat} {s : Sv} (h : VaAt W g s) : W.cell? ⟨g, 0, none⟩ = some (.int .i64 (s.1 : Int)) := by rw [cell_of_row W _ _ _ _ _ h]; rfl
theorem VaAt.c1 {W : World} {g : Nat} {s : Sv} (h : VaAt W g s) : W.cell? ⟨g, 1, none⟩ = some (.int .u64 (s.2.1 : Int)) := by rw [cell_of_row W _ _ _ _ _ h]; rfl
theorem VaAt.c2 {W : World} {g : Nat} {s : Sv} (h : VaAt W g s) : W.cell? ⟨g, 2, none⟩ = some (.int .i64 (s.2.2.1 : Int)) := by rw [cell_of_row W _ _ _ _ _ h]; rfl
theorem VaAt.c3 {W : World} {g : Nat} {s : Sv} (h : VaAt W g s) : W.cell? ⟨g, 3, none⟩ = some (.int .i64 (s.2.2.2 : Int)) := by rw [cell_of_row W _ _ _ _ _ h]; rfl
theorem VaAt.later {W W' : World} {g : Nat} {s : Sv} (h : VaAt W g s) (hb : Below W.heap.size W W') : VaAt W' g s := (hb.block _ (Array.getElem?_eq_some_iff.1 h).1).trans h
theorem _root_.Go.Proofs.YtdidengokijcjaaDoor.Tab.later {W W' : World} (h : Tab W) (hb : Below W.heap.size W W') : Tab W' := by
  intro j hj
  have h1 := h j hj
  exact (World.cell?_of_block (hb.block _ (World.block_lt_of_cell? W _ h1))).trans h1
theorem info_va : (Tryd.prog.info? 106).map (·.size) = some 4 := by kernel_rfl
def validB (N L T : Int) : Bool := decide (0 ≤ N ∧ 0 ≤ L ∧ 0 ≤ T ∧ ((L = 64 ∧ T = 0) ∨ (L < 64 ∧ T < 64 - L)))
set_option maxHeartbeats 1000000 in
theorem valid_any (N V L T : Int) (w : World) (hT : T ≤ 9223372036854775807) :
    Calls Tryd.prog 88 #[.agg #[.int .i64 N, .int .u64 V, .int .i64 L, .int .i64 T]] w fun e w' => e = .returned (.bool (validB N L T)) ∧ Below w.heap.size w w' := by
  have hb := (Below.refl w.heap.size w).alloc (Nat.le_refl _) (.cells #[.int .i64 N, .int .u64 V, .int .i64 L, .int .i64 T] 106 (0, 0))
  have HB := Lib.hid hb
  clear hb
  by_cases h1 : N < 0
  · have e : validB N L T = false := decide_eq_false (by omega)
    rw [e]; clear e
    go_enter Tryd.func88, Tryd.ntmps88
    go_wp2
    go_ret
    exact ⟨rfl, HB.out⟩
  by_cases h2 : L < 0
  · have e : validB N L T = false := decide_eq_false (by omega)
    rw [e]; clear e
    go_enter Tryd.func88, Tryd.ntmps88
    go_wp2
    go_ret
    exact ⟨rfl, HB.out⟩
  by_cases h3 : T < 0
  · have e : validB N L T = false := decide_eq_false (by omega)
    rw [e]; clear e
    go_enter Tryd.func88, Tryd.ntmps88
    go_wp2
    go_ret
    exact ⟨rfl, HB.out⟩
  by_cases h4 : L = 64
  · subst h4
    have e : validB N 64 T = (T == 0) := by
      by_cases h0 : T = 0
      · subst h0; exact decide_eq_true (by omega)
      · rw [show (T == 0) = false by simpa using h0]; exact decide_eq_false (by omega)
    rw [e]; clear e
    go_enter Tryd.func88, Tryd.ntmps88
    go_wp2
    all_goals (go_ret; exact ⟨rfl, HB.out⟩)
  · have h4' : (L == 64) = false := by simpa using h4
    by_cases h5 : L < 64
    · have e : validB N L T = decide (T < 64 - L) := by
        by_cases h0 : T < 64 - L
        · rw [decide_eq_true h0]; exact decide_eq_true (by omega)
        · rw [decide_eq_false h0]; exact decide_eq_false (by omega)
      rw [e]; clear e
      go_enter Tryd.func88, Tryd.ntmps88
      go_wp2
      all_goals (go_ret; exact ⟨rfl, HB.out⟩)
    · have e : validB N L T = false := decide_eq_false (by omega)
      rw [e]; clear e
      go_enter Tryd.func88, Tryd.ntmps88
      go_wp2
      go_ret
      exact ⟨rfl, HB.out⟩
theorem validB_ok {s : Sv} (h : okV s) : validB s.1 s.2.2.1 s.2.2.2 = true := decide_eq_true (by have := h.2; unfold okW at this; omega)
theorem valid_ok (s : Sv) (w : World) (h : okV s) :
    Calls Tryd.prog 88 #[.agg #[.int .i64 (s.1 : Int), .int .u64 (s.2.1 : Int), .int .i64 (s.2.2.1 : Int), .int .i64 (s.2.2.2 : Int)]] w fun e w' => e = .returned (.bool true) ∧ Below w.heap.size w w' := by
  rw [← validB_ok h]
  exact valid_any _ _ _ _ w (by have := okW_size h.2; omega)
/-- How a value is put, and the window then. -/
def wayN (s : Sv) (x : Nat) : Nat := if s.1 = 0 then 0 else if x = 0 then 1 else if inB s x = true then 2 else 3
def wayL (s : Sv) (x : Nat) : Nat := if wayN s x = 3 then ld x else s.2.2.1
def wayT (s : Sv) (x : Nat) : Nat := if wayN s x = 3 then tr x else s.2.2.2
theorem ld_cast (x : Nat) (hx : x < 18446744073709551616) : (64 - (Lib.bitLen x : Int)) = ((ld x : Nat) : Int) := by
  have : Lib.bitLen x ≤ 64 := Lib.bitLen_le x 64 (by omega) hx
  unfold ld; omega
theorem tr_le (x : Nat) (hx : x < 18446744073709551616) : tr x ≤ 64 := by
  by_cases h0 : x = 0
  · subst h0; decide
  · have := win_new x hx h0; omega
set_option maxHeartbeats 2000000 in
theorem of_any (s : Sv) (x : Nat) (w : World) (hs : okV s) (hx : x < 18446744073709551616) (hT : Tab w) :
    Calls Tryd.prog 89 #[.agg #[.int .i64 (s.1 : Int), .int .u64 (s.2.1 : Int), .int .i64 (s.2.2.1 : Int), .int .i64 (s.2.2.2 : Int)], .int .u64 (x : Int)] w fun e w' => e = .returned (.tuple #[.int .i64 (wayN s x : Nat), .int .i64 (wayL s x : Nat), .int .i64 (wayT s x : Nat)]) ∧ Below w.heap.size w w' := by
  have hw := okW_size hs.2
  have htl := tr_le x hx
  have hll : ld x ≤ 64 := by unfold ld; omega
  obtain ⟨N, V, L, T⟩ := s
  simp only [] at hw
  have HB := Lib.hid (fun (o : Obj) (n : Nat) => (show Below w.heap.size w ((w.alloc o).drewN n) from ((Below.refl _ _).alloc (Nat.le_refl _) o).trans ⟨rfl, rfl, rfl, Nat.le_refl _, fun _ _ => rfl⟩))
  have HL : Hid (∀ W, Calls Tryd.prog 96 #[.int .u64 (x : Int)] W fun e w' => e = .returned (.int .i64 ((ld x : Nat) : Int)) ∧ W = w') := Lib.hid (fun W => by rw [← ld_cast x hx]; exact lead_any x W hx)
  have HTR : Hid (∀ W, Below w.heap.size w W → Calls Tryd.prog 97 #[.int .u64 (x : Int)] W fun e w' => e = .returned (.int .i64 ((tr x : Nat) : Int)) ∧ W = w') := Lib.hid (fun W h => trail_any x W hx (hT.later h))
  have hin := inB_iff (N, V, L, T) x
  have hN3 : wayN (N, V, L, T) x = if N = 0 then 0 else if x = 0 then 1 else if inB (N, V, L, T) x = true then 2 else 3 := rfl
  have hL3 : wayL (N, V, L, T) x = if wayN (N, V, L, T) x = 3 then ld x else L := rfl
  have hT3 : wayT (N, V, L, T) x = if wayN (N, V, L, T) x = 3 then tr x else T := rfl
  generalize wayN (N, V, L, T) x = wn at *
  generalize wayL (N, V, L, T) x = wl at *
  generalize wayT (N, V, L, T) x = wt at *
  generalize ld x = a at *
  generalize tr x = c at *
  generalize inB (N, V, L, T) x = ib at *
  simp only [] at hin
  have HIN := Lib.hid hin
  have H3 := Lib.hid (And.intro hN3 (And.intro hL3 hT3))
  clear hT hs hin hN3 hL3 hT3
  go_enter Tryd.func89, Tryd.ntmps89
  go_wp2_with fail
  refine (HL.out _).mono ?_
  rintro e w' ⟨rfl, rfl⟩
  go_wp2_with fail
  refine (HTR.out _ (HB.out _ 0)).mono ?_
  rintro e w' ⟨rfl, rfl⟩
  by_cases h0 : N = 0
  · obtain ⟨rfl, rfl, rfl⟩ : wn = 0 ∧ wl = L ∧ wt = T := by
      obtain ⟨e1, e2, e3⟩ := H3.out
      rw [if_pos h0] at e1
      subst e1
      rw [if_neg (by omega)] at e2 e3
      exact ⟨rfl, e2, e3⟩
    have hb0 : ((N : Int) == 0) = true := by simp [h0]
    clear h0
    go_wp2_with fail
    go_quiet (fail)
    go_wp2
    go_ret3
    exact ⟨rfl, (HB.out _ 0).trans ⟨rfl, rfl, rfl, Nat.le_refl _, fun _ _ => rfl⟩⟩
  have hb0 : ((N : Int) == 0) = false := by simp; omega
  by_cases hx0 : x = 0
  · obtain ⟨rfl, rfl, rfl⟩ : wn = 1 ∧ wl = L ∧ wt = T := by
      obtain ⟨e1, e2, e3⟩ := H3.out
      rw [if_neg h0, if_pos hx0] at e1
      subst e1
      rw [if_neg (by omega)] at e2 e3
      exact ⟨rfl, e2, e3⟩
    have hbx : ((x : Int) == 0) = true := by simp [hx0]
    clear h0 hx0
    go_wp2_with fail
    go_quiet (fail)
    go_wp2
    go_ret3
    exact ⟨rfl, (HB.out _ 0).trans ⟨rfl, rfl, rfl, Nat.le_refl _, fun _ _ => rfl⟩⟩
  have hbx : ((x : Int) == 0) = false := by simp; omega
  by_cases hi : ib = true
  · obtain ⟨i1, i2, i3⟩ := HIN.out.1 hi
    obtain ⟨rfl, rfl, rfl⟩ : wn = 2 ∧ wl = L ∧ wt = T := by
      obtain ⟨e1, e2, e3⟩ := H3.out
      rw [if_neg h0, if_neg hx0, if_pos hi] at e1
      subst e1
      rw [if_neg (by omega)] at e2 e3
      exact ⟨rfl, e2, e3⟩
    clear h0 hx0 hi
    go_wp2_with fail
    go_quiet (fail)
    go_wp2
    go_ret3
    exact ⟨rfl, (HB.out _ 0).trans ⟨rfl, rfl, rfl, Nat.le_refl _, fun _ _ => rfl⟩⟩
  · obtain ⟨rfl, rfl, rfl⟩ : wn = 3 ∧ wl = a ∧ wt = c := by
      obtain ⟨e1, e2, e3⟩ := H3.out
      rw [if_neg h0, if_neg hx0, if_neg hi] at e1
      subst e1
      rw [if_pos rfl] at e2 e3
      exact ⟨rfl, e2, e3⟩
    have hno : ¬ (L < 64 ∧ L ≤ wl ∧ T ≤ wt) := fun h => hi (HIN.out.2 h)
    clear h0 hx0 hi
    by_cases j1 : L < 64
    · by_cases j2 : L ≤ wl
      · have j3 : ¬ T ≤ wt := fun h => hno ⟨j1, j2, h⟩
        clear hno
        go_wp2
        go_ret3
        exact ⟨rfl, HB.out _ 0⟩
      · clear hno
        go_wp2
        go_ret3
        exact ⟨rfl, HB.out _ 0⟩
    · clear hno
      go_wp2
      go_ret3
      exact ⟨rfl, HB.out _ 0⟩
end Go.Proofs.YtdidengokijcjaaDoor.VaW
/-
  VALUES AS BITS: Put, Cost, WALKED.
-/
namespace Go.Proofs.YtdidengokijcjaaDoor.VaW
set_option linter.unusedVariables false
open Go.RowKit Go.Shelf BitsM BitsW VaM
theorem put_way (s : Sv) (v : Nat) (hs : okV s) (hv : v < 18446744073709551616) :
    aftV s v = (s.1 + 1, v, wayL s (v ^^^ s.2.1), wayT s (v ^^^ s.2.1)) ∧ wayL s (v ^^^ s.2.1) + wayT s (v ^^^ s.2.1) ≤ 64 ∧
    ((wayN s (v ^^^ s.2.1) = 0 ∧ putV s v = msb v 64) ∨ (wayN s (v ^^^ s.2.1) = 1 ∧ putV s v = [false]) ∨
      (wayN s (v ^^^ s.2.1) = 2 ∧ putV s v = [true, false] ++ msb ((v ^^^ s.2.1) / 2 ^ wayT s (v ^^^ s.2.1)) (64 - wayL s (v ^^^ s.2.1) - wayT s (v ^^^ s.2.1))) ∨
      (wayN s (v ^^^ s.2.1) = 3 ∧ wayL s (v ^^^ s.2.1) + wayT s (v ^^^ s.2.1) ≤ 63 ∧ putV s v = [true, true] ++ msb (wayL s (v ^^^ s.2.1)) 6 ++ msb (63 - wayL s (v ^^^ s.2.1) - wayT s (v ^^^ s.2.1)) 6 ++ msb ((v ^^^ s.2.1) / 2 ^ wayT s (v ^^^ s.2.1)) (64 - wayL s (v ^^^ s.2.1) - wayT s (v ^^^ s.2.1)))) := by
  have hx := xor_lt hv hs.1
  have hw := okW_size hs.2
  have hn := fun h => win_new (v ^^^ s.2.1) hx h
  unfold putV aftV wayL wayT wayN
  generalize v ^^^ s.2.1 = x at *
  by_cases h0 : s.1 = 0
  · exact ⟨by simp [h0], by simp [h0]; exact hw, .inl ⟨by simp [h0], by simp [h0]⟩⟩
  by_cases hx0 : x = 0
  · exact ⟨by simp [h0, hx0], by simp [h0, hx0]; exact hw, .inr (.inl ⟨by simp [h0, hx0], by simp [h0, hx0]⟩)⟩
  by_cases hi : inB s x = true
  · exact ⟨by simp [h0, hx0, hi], by simp [h0, hx0, hi]; exact hw, .inr (.inr (.inl ⟨by simp [h0, hx0, hi], by simp [h0, hx0, hi]⟩))⟩
  · obtain ⟨n1, n2⟩ := hn hx0
    exact ⟨by simp [h0, hx0, hi], by simp [h0, hx0, hi]; omega, .inr (.inr (.inr ⟨by simp [h0, hx0, hi], by simp [h0, hx0, hi]; omega, by simp [h0, hx0, hi]⟩))⟩
theorem box_v (w : World) (s : Sv) : (w.alloc (VaObj s)).heap.size = w.heap.size + 1 := by simp
theorem shr_nat (x c : Nat) : (x : Int) / 2 ^ ((c : Nat) : Int).toNat = ((x / 2 ^ c : Nat) : Int) := by
  rw [Int.toNat_natCast, Int.natCast_ediv, Int.natCast_pow]; rfl
set_option maxHeartbeats 4000000 in
theorem put_val (bw : Nat) (rb0 : Option Nat) (b0 : List Bool) (s : Sv) (v : Nat) (w : World) (hw : WriterAt w bw rb0 b0) (hb : b0.length + 200 ≤ 1099511627776) (hs : okV s) (hv : v < 18446744073709551616) (hN : s.1 ≤ 4398046511104) (hT : Tab w) :
    Calls Tryd.prog 75 #[.pointer (some ⟨bw, 0, none⟩), .agg #[.int .i64 (s.1 : Int), .int .u64 (s.2.1 : Int), .int .i64 (s.2.2.1 : Int), .int .i64 (s.2.2.2 : Int)], .int .u64 (v : Int)] w fun e w' => e = .returned (.agg #[.int .i64 ((aftV s v).1 : Int), .int .u64 ((aftV s v).2.1 : Int), .int .i64 ((aftV s v).2.2.1 : Int), .int .i64 ((aftV s v).2.2.2 : Int)]) ∧ Wrote w bw rb0 (b0 ++ putV s v) w' := by
  have HP := Lib.hid (((PM.start hw).alloc (VaObj s)).alloc (VaObj (0, 0, 0, 0)))
  obtain ⟨ea, hLT, hway⟩ := put_way s v hs hv
  rw [ea]
  have hx := xor_lt hv hs.1
  have HV := Lib.hid (fun W => valid_ok s W hs)
  have HOF := Lib.hid (fun W h => of_any s (v ^^^ s.2.1) W hs hx h)
  have HTT : Hid (∀ W, Below w.heap.size w W → Tab W) := Lib.hid fun W h => hT.later h
  have hxr := bits_xor_u64_nat v s.2.1 hv hs.1
  clear hw hT hs ea
  obtain ⟨N, V, L, T⟩ := s
  simp only [] at HV HOF hxr hway hLT hN hx ⊢
  generalize v ^^^ V = x at *
  generalize putV (N, V, L, T) v = pb at *
  generalize wayN (N, V, L, T) x = wn at *
  generalize wayL (N, V, L, T) x = a at *
  generalize wayT (N, V, L, T) x = c at *
  rcases hway with ⟨rfl, hpb⟩ | ⟨rfl, hpb⟩ | ⟨rfl, hpb⟩ | ⟨rfl, h63, hpb⟩ <;> have HPB := Lib.hid hpb <;> clear hpb
  · have eN : ((N + 1 : Nat) : Int) = (N : Int) + 1 := by omega
    rw [eN]
    clear eN
    go_enter Tryd.func75, Tryd.ntmps75
    go_wp2_with fail
    refine (HV.out _).mono ?_
    rintro e w1 ⟨rfl, hb1⟩
    have HP1 := Lib.hid (HP.out.below hb1)
    have HB1 := Lib.hid (show Below w.heap.size w w1 from (((Below.refl _ _).alloc (Nat.le_refl _) _).alloc (by simp) _).trans (hb1.mono (by simp; omega)))
    clear hb1 HP HV
    have hbox : VaAt w1 w.heap.size (N, V, L, T) := HP1.out.at_ (by simp)
    have c0 := hbox.c0
    have c1 := hbox.c1
    have c2 := hbox.c2
    have c3 := hbox.c3
    clear hbox
    go_wp2_with fail
    refine (HOF.out _ (HTT.out _ HB1.out)).mono ?_
    rintro e w2 ⟨rfl, hb2⟩
    have HP2 := Lib.hid (HP1.out.below hb2)
    clear hb2 HP1 HOF HTT c0 c1 c2 c3 hxr HB1
    go_wp2_with fail
    refine (HP2.out.put (by omega) (v : Int) 64 (by omega) (by omega)).mono ?_
    rintro e w9 ⟨rfl, p9⟩
    rw [Int.toNat_natCast, show within 64 = 64 from rfl, ← HPB.out] at p9
    have HP9 := Lib.hid p9
    clear p9 HP2
    have hbox : VaAt w9 w.heap.size (N, V, L, T) := HP9.out.at_ (by simp)
    have d0 := hbox.c0
    simp only [] at d0
    have hres : VaAt w9 (w.heap.size + 1) (0, 0, 0, 0) := HP9.out.at_ (by rw [box_v]; simp)
    clear hbox
    go_wp2_with (refine wpList_store_row rfl 106 _ _ rfl (w.heap.size + 1) #[.int .i64 ((N : Int) + 1), .int .u64 (v : Int), .int .i64 (a : Int), .int .i64 (c : Int)] rfl rfl 106 _ hres info_va rfl (by simp [Value.oneCell']) ?_)
    have hr2 : (w9.setRow (w.heap.size + 1) #[.int .i64 ((N : Int) + 1), .int .u64 (v : Int), .int .i64 (a : Int), .int .i64 (c : Int)]).heap[w.heap.size + 1]? = some (.cells #[.int .i64 ((N : Int) + 1), .int .u64 (v : Int), .int .i64 (a : Int), .int .i64 (c : Int)] 106 (0, 0)) := setRow_heap w9 _ _ _ _ _ hres
    exact bodyPost_ret (v := .agg #[.int .i64 ((N : Int) + 1), .int .u64 (v : Int), .int .i64 (a : Int), .int .i64 (c : Int)]) (results_cell_row (Tryd.results75) _ _ (w.heap.size + 1) 106 _ (0, 0) _ rfl hr2 Tryd.underlying106 rfl info_va) rfl ⟨rfl, (HP9.out.setRow (o := VaObj (0, 0, 0, 0)) (by rw [box_v]; simp) _).wrote⟩
  · have eN : ((N + 1 : Nat) : Int) = (N : Int) + 1 := by omega
    rw [eN]
    clear eN
    go_enter Tryd.func75, Tryd.ntmps75
    go_wp2_with fail
    refine (HV.out _).mono ?_
    rintro e w1 ⟨rfl, hb1⟩
    have HP1 := Lib.hid (HP.out.below hb1)
    have HB1 := Lib.hid (show Below w.heap.size w w1 from (((Below.refl _ _).alloc (Nat.le_refl _) _).alloc (by simp) _).trans (hb1.mono (by simp; omega)))
    clear hb1 HP HV
    have hbox : VaAt w1 w.heap.size (N, V, L, T) := HP1.out.at_ (by simp)
    have c0 := hbox.c0
    have c1 := hbox.c1
    have c2 := hbox.c2
    have c3 := hbox.c3
    clear hbox
    go_wp2_with fail
    refine (HOF.out _ (HTT.out _ HB1.out)).mono ?_
    rintro e w2 ⟨rfl, hb2⟩
    have HP2 := Lib.hid (HP1.out.below hb2)
    clear hb2 HP1 HOF HTT c0 c1 c2 c3 hxr HB1
    go_wp2_with fail
    refine (HP2.out.put (by omega) 0 1 (by omega) (by omega)).mono ?_
    rintro e w9 ⟨rfl, p9⟩
    have HP9 := Lib.hid (show PM w w9 bw rb0 (b0 ++ pb) _ by rw [HPB.out]; exact p9)
    clear p9 HP2
    have hbox : VaAt w9 w.heap.size (N, V, L, T) := HP9.out.at_ (by simp)
    have d0 := hbox.c0
    simp only [] at d0
    have hres : VaAt w9 (w.heap.size + 1) (0, 0, 0, 0) := HP9.out.at_ (by rw [box_v]; simp)
    clear hbox
    go_wp2_with (refine wpList_store_row rfl 106 _ _ rfl (w.heap.size + 1) #[.int .i64 ((N : Int) + 1), .int .u64 (v : Int), .int .i64 (a : Int), .int .i64 (c : Int)] rfl rfl 106 _ hres info_va rfl (by simp [Value.oneCell']) ?_)
    have hr2 : (w9.setRow (w.heap.size + 1) #[.int .i64 ((N : Int) + 1), .int .u64 (v : Int), .int .i64 (a : Int), .int .i64 (c : Int)]).heap[w.heap.size + 1]? = some (.cells #[.int .i64 ((N : Int) + 1), .int .u64 (v : Int), .int .i64 (a : Int), .int .i64 (c : Int)] 106 (0, 0)) := setRow_heap w9 _ _ _ _ _ hres
    exact bodyPost_ret (v := .agg #[.int .i64 ((N : Int) + 1), .int .u64 (v : Int), .int .i64 (a : Int), .int .i64 (c : Int)]) (results_cell_row (Tryd.results75) _ _ (w.heap.size + 1) 106 _ (0, 0) _ rfl hr2 Tryd.underlying106 rfl info_va) rfl ⟨rfl, (HP9.out.setRow (o := VaObj (0, 0, 0, 0)) (by rw [box_v]; simp) _).wrote⟩
  · have eN : ((N + 1 : Nat) : Int) = (N : Int) + 1 := by omega
    obtain ⟨q, hqq⟩ : ∃ q, x / 2 ^ c = q := ⟨_, rfl⟩
    have hsh : (x : Int) / 2 ^ ((c : Nat) : Int).toNat = ((q : Nat) : Int) := by rw [← hqq]; exact shr_nat x c
    have hsh2 : (x : Int) / 2 ^ c = ((q : Nat) : Int) := by rw [← hsh, Int.toNat_natCast]
    have hq : q < 18446744073709551616 := by rw [← hqq]; exact Nat.lt_of_le_of_lt (Nat.div_le_self _ _) hx
    have hpb2 := HPB.out
    rw [hqq] at hpb2
    clear HPB hqq
    have HPB := Lib.hid hpb2
    clear hpb2
    rw [eN]
    clear eN
    go_enter Tryd.func75, Tryd.ntmps75
    go_wp2_with fail
    refine (HV.out _).mono ?_
    rintro e w1 ⟨rfl, hb1⟩
    have HP1 := Lib.hid (HP.out.below hb1)
    have HB1 := Lib.hid (show Below w.heap.size w w1 from (((Below.refl _ _).alloc (Nat.le_refl _) _).alloc (by simp) _).trans (hb1.mono (by simp; omega)))
    clear hb1 HP HV
    have hbox : VaAt w1 w.heap.size (N, V, L, T) := HP1.out.at_ (by simp)
    have c0 := hbox.c0
    have c1 := hbox.c1
    have c2 := hbox.c2
    have c3 := hbox.c3
    clear hbox
    go_wp2_with fail
    refine (HOF.out _ (HTT.out _ HB1.out)).mono ?_
    rintro e w2 ⟨rfl, hb2⟩
    have HP2 := Lib.hid (HP1.out.below hb2)
    clear hb2 HP1 HOF HTT c0 c1 c2 c3 hxr HB1
    go_wp2_with fail
    refine (HP2.out.put (by omega) 2 2 (by omega) (by omega)).mono ?_
    rintro e w8 ⟨rfl, p8⟩
    have HP8 := Lib.hid (show PM w w8 bw rb0 (b0 ++ [true, false]) _ from p8)
    clear p8 HP2
    go_wp2_with fail
    have hwi : (within (64 - (a : Int) - (c : Int))) = 64 - a - c := by unfold within; omega
    go_wp2_with fail
    refine (HP8.out.put (by rw [List.length_append]; show b0.length + 2 + 64 ≤ _; omega) (q : Int) (64 - (a : Int) - (c : Int)) (by omega) (by omega)).mono ?_
    rintro e w9 ⟨rfl, p9⟩
    rw [hwi, Int.toNat_natCast, List.append_assoc, ← HPB.out] at p9
    have HP9 := Lib.hid p9
    clear p9 HP8 hwi
    have hbox : VaAt w9 w.heap.size (N, V, L, T) := HP9.out.at_ (by simp)
    have d0 := hbox.c0
    simp only [] at d0
    have hres : VaAt w9 (w.heap.size + 1) (0, 0, 0, 0) := HP9.out.at_ (by rw [box_v]; simp)
    clear hbox
    go_wp2_with (refine wpList_store_row rfl 106 _ _ rfl (w.heap.size + 1) #[.int .i64 ((N : Int) + 1), .int .u64 (v : Int), .int .i64 (a : Int), .int .i64 (c : Int)] rfl rfl 106 _ hres info_va rfl (by simp [Value.oneCell']) ?_)
    have hr2 : (w9.setRow (w.heap.size + 1) #[.int .i64 ((N : Int) + 1), .int .u64 (v : Int), .int .i64 (a : Int), .int .i64 (c : Int)]).heap[w.heap.size + 1]? = some (.cells #[.int .i64 ((N : Int) + 1), .int .u64 (v : Int), .int .i64 (a : Int), .int .i64 (c : Int)] 106 (0, 0)) := setRow_heap w9 _ _ _ _ _ hres
    exact bodyPost_ret (v := .agg #[.int .i64 ((N : Int) + 1), .int .u64 (v : Int), .int .i64 (a : Int), .int .i64 (c : Int)]) (results_cell_row (Tryd.results75) _ _ (w.heap.size + 1) 106 _ (0, 0) _ rfl hr2 Tryd.underlying106 rfl info_va) rfl ⟨rfl, (HP9.out.setRow (o := VaObj (0, 0, 0, 0)) (by rw [box_v]; simp) _).wrote⟩
  · have eN : ((N + 1 : Nat) : Int) = (N : Int) + 1 := by omega
    obtain ⟨q, hqq⟩ : ∃ q, x / 2 ^ c = q := ⟨_, rfl⟩
    have hsh : (x : Int) / 2 ^ ((c : Nat) : Int).toNat = ((q : Nat) : Int) := by rw [← hqq]; exact shr_nat x c
    have hsh2 : (x : Int) / 2 ^ c = ((q : Nat) : Int) := by rw [← hsh, Int.toNat_natCast]
    have hq : q < 18446744073709551616 := by rw [← hqq]; exact Nat.lt_of_le_of_lt (Nat.div_le_self _ _) hx
    have hpb2 := HPB.out
    rw [hqq] at hpb2
    clear HPB hqq
    have HPB := Lib.hid hpb2
    clear hpb2
    rw [eN]
    clear eN
    go_enter Tryd.func75, Tryd.ntmps75
    go_wp2_with fail
    refine (HV.out _).mono ?_
    rintro e w1 ⟨rfl, hb1⟩
    have HP1 := Lib.hid (HP.out.below hb1)
    have HB1 := Lib.hid (show Below w.heap.size w w1 from (((Below.refl _ _).alloc (Nat.le_refl _) _).alloc (by simp) _).trans (hb1.mono (by simp; omega)))
    clear hb1 HP HV
    have hbox : VaAt w1 w.heap.size (N, V, L, T) := HP1.out.at_ (by simp)
    have c0 := hbox.c0
    have c1 := hbox.c1
    have c2 := hbox.c2
    have c3 := hbox.c3
    clear hbox
    go_wp2_with fail
    refine (HOF.out _ (HTT.out _ HB1.out)).mono ?_
    rintro e w2 ⟨rfl, hb2⟩
    have HP2 := Lib.hid (HP1.out.below hb2)
    clear hb2 HP1 HOF HTT c0 c1 c2 c3 hxr HB1
    have HBB := Lib.hid (show (64 - (a : Int) - (c : Int) - 1) = ((63 - a - c : Nat) : Int) ∧ (within (64 - (a : Int) - (c : Int))) = 64 - a - c from ⟨by omega, by unfold within; omega⟩)
    go_wp2_with fail
    refine (HP2.out.put (by omega) 3 2 (by omega) (by omega)).mono ?_
    rintro e w6 ⟨rfl, p6⟩
    have HP6 := Lib.hid (show PM w w6 bw rb0 (b0 ++ [true, true]) _ from p6)
    clear p6 HP2
    go_wp2_with fail
    refine (HP6.out.put (by rw [List.length_append]; show b0.length + 2 + 64 ≤ _; omega) (a : Int) 6 (by omega) (by omega)).mono ?_
    rintro e w7 ⟨rfl, p7⟩
    rw [Int.toNat_natCast, show within 6 = 6 from rfl, List.append_assoc] at p7
    have HP7 := Lib.hid p7
    clear p7 HP6
    go_wp2_with fail
    refine (HP7.out.put (by simp only [List.length_append, msb_length]; show b0.length + (2 + 6) + 64 ≤ _; omega) (64 - (a : Int) - (c : Int) - 1) 6 (by omega) (by omega)).mono ?_
    rintro e w8 ⟨rfl, p8⟩
    rw [HBB.out.1, Int.toNat_natCast, show within 6 = 6 from rfl, List.append_assoc] at p8
    have HP8 := Lib.hid p8
    clear p8 HP7
    go_wp2_with fail
    refine (HP8.out.put (by simp only [List.length_append, msb_length]; show b0.length + (2 + 6 + 6) + 64 ≤ _; omega) (q : Int) (64 - (a : Int) - (c : Int)) (by omega) (by omega)).mono ?_
    rintro e w9 ⟨rfl, p9⟩
    rw [HBB.out.2, Int.toNat_natCast, List.append_assoc, ← HPB.out] at p9
    have HP9 := Lib.hid p9
    clear p9 HP8
    have hbox : VaAt w9 w.heap.size (N, V, L, T) := HP9.out.at_ (by simp)
    have d0 := hbox.c0
    simp only [] at d0
    have hres : VaAt w9 (w.heap.size + 1) (0, 0, 0, 0) := HP9.out.at_ (by rw [box_v]; simp)
    clear hbox
    go_wp2_with (refine wpList_store_row rfl 106 _ _ rfl (w.heap.size + 1) #[.int .i64 ((N : Int) + 1), .int .u64 (v : Int), .int .i64 (a : Int), .int .i64 (c : Int)] rfl rfl 106 _ hres info_va rfl (by simp [Value.oneCell']) ?_)
    have hr2 : (w9.setRow (w.heap.size + 1) #[.int .i64 ((N : Int) + 1), .int .u64 (v : Int), .int .i64 (a : Int), .int .i64 (c : Int)]).heap[w.heap.size + 1]? = some (.cells #[.int .i64 ((N : Int) + 1), .int .u64 (v : Int), .int .i64 (a : Int), .int .i64 (c : Int)] 106 (0, 0)) := setRow_heap w9 _ _ _ _ _ hres
    exact bodyPost_ret (v := .agg #[.int .i64 ((N : Int) + 1), .int .u64 (v : Int), .int .i64 (a : Int), .int .i64 (c : Int)]) (results_cell_row (Tryd.results75) _ _ (w.heap.size + 1) 106 _ (0, 0) _ rfl hr2 Tryd.underlying106 rfl info_va) rfl ⟨rfl, (HP9.out.setRow (o := VaObj (0, 0, 0, 0)) (by rw [box_v]; simp) _).wrote⟩
/-- What a value costs. -/
theorem cost_way (s : Sv) (v : Nat) (hs : okV s) (hv : v < 18446744073709551616) :
    ((putV s v).length : Int) = if wayN s (v ^^^ s.2.1) = 0 then 64 else if wayN s (v ^^^ s.2.1) = 1 then 1 else if wayN s (v ^^^ s.2.1) = 2 then 66 - (wayL s (v ^^^ s.2.1) : Int) - (wayT s (v ^^^ s.2.1) : Int) else 78 - (wayL s (v ^^^ s.2.1) : Int) - (wayT s (v ^^^ s.2.1) : Int) := by
  obtain ⟨-, h1, h2⟩ := put_way s v hs hv
  rcases h2 with ⟨h2, h3⟩ | ⟨h2, h3⟩ | ⟨h2, h3⟩ | ⟨h2, h4, h3⟩
  · rw [h2, h3, msb_length, if_pos rfl]; rfl
  · rw [h2, h3]; rfl
  · rw [h2, h3, List.length_append, msb_length, if_neg (by decide), if_neg (by decide), if_pos rfl]; simp only [List.length_cons, List.length_nil]; omega
  · rw [h2, h3]; simp only [List.length_append, msb_length, List.length_cons, List.length_nil]; rw [if_neg (by decide), if_neg (by decide), if_neg (by decide)]; omega
end Go.Proofs.YtdidengokijcjaaDoor.VaW
