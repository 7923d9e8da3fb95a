/-
  truth.Fits, count, Same: THE WALKS.
  slices.EqualFunc AT SERIES; truth.Same; truth.allowed: THE WALKS.
-/
import Derived.Test.YtdjgndnllaingaaJ18
/-
  truth.Fits, count, Same: THE WALKS.
-/
namespace Go.Proofs.Ytdjgndnllaingaa.TrW
set_option linter.unusedVariables false
open Go.RowKit Go.Shelf LabM LbM LabW FrW TrM
def fitsM (s : List Ser) (gen : Int) : Bool := !s.any (fun x => decide (limI gen < (longL x.1 : Int)))
set_option maxHeartbeats 1000000 in
theorem tfits_any (A : Option Addr) (n c : Nat) (hs : List SerH) (f gen : Int) (w : World) (hl : Sers w A n c hs) (hn : n ≤ 1000000) :
    Calls Try.prog 20 #[.agg #[.slice A n c, .int .i64 f], .int .i64 gen] w fun e w' => e = .returned (.bool (fitsM (hs.map absR) gen)) ∧ Below w.heap.size w w' := by
  have KI : Hid (∀ W g, Below w.heap.size w W → BoxI W g gen → Calls Try.prog 40 #[.slice A n c, .func (.func 41) #[] #[.pointer (some ⟨g, 0, none⟩)]] W fun e w' => e = .returned (.bool (hs.any (fun x => decide (limI gen < (longL x.1.2 : Int))))) ∧ Below W.heap.size W w') := Lib.hid (fun W g h hg =>
    containsR_any 41 #[.pointer (some ⟨g, 0, none⟩)] (fun x => decide (limI gen < (longL x.1.2 : Int))) (enters_of Try.func41 (by kernel_rfl) rfl) A n c hs W (hl.later h) hn
      (fun x hx W2 hW2 => fits1_any x g gen W2 (hg.later hW2) (((hl.ok x hx).later h).later hW2)))
  have HR : Hid (fitsM (hs.map absR) gen = !hs.any (fun x => decide (limI gen < (longL x.1.2 : Int)))) := Lib.hid (by unfold fitsM; rw [List.any_map]; rfl)
  rw [HR.out]
  obtain ⟨R, hR⟩ : ∃ R, hs.any (fun x => decide (limI gen < (longL x.1.2 : Int))) = R := ⟨_, rfl⟩
  rw [hR] at KI ⊢
  clear hl hR HR
  go_enter Try.func20, Try.ntmps20
  go_wp2_with fail
  have hb0 : Below w.heap.size w ((w.alloc (.cells #[.slice A n c, .int .i64 f] 28)).alloc (.cells #[.int .i64 gen] 3)) := ((Below.refl _ _).alloc (Nat.le_refl _) _).alloc (by simp) _
  have hbx : BoxI ((w.alloc (.cells #[.slice A n c, .int .i64 f] 28)).alloc (.cells #[.int .i64 gen] 3)) (w.heap.size + 1) gen := by
    unfold BoxI
    have h := heap_alloc_new (w.alloc (.cells #[.slice A n c, .int .i64 f] 28)) (.cells #[.int .i64 gen] 3)
    rw [show (w.alloc (.cells #[.slice A n c, .int .i64 f] 28)).heap.size = w.heap.size + 1 by simp] at h
    rw [cell_of_row _ _ _ _ _ _ h]; rfl
  have HB0 := Lib.hid hb0
  refine (KI.out _ _ hb0 hbx).mono ?_
  rintro e w1 ⟨rfl, hb1⟩
  have HB := Lib.hid (later HB0.out hb1)
  clear hb1 hb0 hbx
  go_wp2_with fail
  go_ret
  exact ⟨rfl, HB.out⟩
theorem count_snoc (s : List Ser) (k : Nat) (h : k < s.length) : count (s.take (k + 1)) = count (s.take k) + s[k].2.1.length := by
  unfold count
  rw [take_snocL s k h, List.map_append, List.sum_append]
  simp
theorem count_le (s : List Ser) (h : ∀ x ∈ s, x.2.1.length ≤ 1000) : count s ≤ 1000 * s.length := by
  unfold count
  induction s with
  | nil => simp
  | cons x s ih =>
    have h1 := h x List.mem_cons_self
    have h2 := ih (fun y hy => h y (List.mem_cons_of_mem _ hy))
    rw [List.map_cons, List.sum_cons, List.length_cons]
    omega
/-- So many samples at most. -/
def SmallS (hs : List SerH) : Prop := ∀ x ∈ hs, x.2.1.2.length ≤ 1000
theorem small_abs {hs : List SerH} (h : SmallS hs) : ∀ x ∈ hs.map absR, x.2.1.length ≤ 1000 := by
  intro x hx
  obtain ⟨y, hy, rfl⟩ := List.mem_map.1 hx
  exact h y hy
set_option maxRecDepth 20000 in
set_option maxHeartbeats 1000000 in
theorem count_any (A : Option Addr) (n c : Nat) (hs : List SerH) (f : Int) (w : World) (hl : Sers w A n c hs) (hn : n ≤ 1000000) (hS : SmallS hs) :
    Calls Try.prog 47 #[.agg #[.slice A n c, .int .i64 f]] w fun e w' => e = .returned (.int .i64 (count (hs.map absR) : Int)) ∧ Below w.heap.size w w' := by
  have HL := Lib.hid hl
  have hcap : c ≤ 9223372036854775807 := hl.row.cap
  have hle := hl.row.le
  have HC : Hid (∀ k, k ≤ n → count ((hs.map absR).take k) ≤ 1000 * k) := Lib.hid (fun k hk => by
    have := count_le ((hs.map absR).take k) (fun x hx => small_abs hS x (List.mem_of_mem_take hx))
    rw [List.length_take] at this
    omega)
  clear hl hS
  obtain ⟨l, hl⟩ : ∃ l, hs.map absR = l := ⟨_, rfl⟩
  have HLL := Lib.hid hl
  rw [hl] at HC ⊢
  clear hl
  go_enter Try.func47, Try.ntmps47
  go_wp2_with fail
  go_loopw [3, 9] (fun v3 v9 wr => ∃ k : Nat, k ≤ n ∧ v9 = .int .i64 k ∧ v3 = .int .i64 (count (l.take k) : Int) ∧ Below w.heap.size w wr) (fun _ v9 _ => n - (intOf v9).toNat)
  case atStart => exact ⟨0, Nat.zero_le _, rfl, rfl, (Below.refl _ _).alloc (Nat.le_refl _) _⟩
  case round =>
    obtain ⟨k, hk, rfl, rfl, ho⟩ := hrel
    have hln := HL.out.row.len
    have hq := HC.out k hk
    by_cases hlt : k < n
    · have hkl : k < hs.length := by omega
      obtain ⟨b, o, rfl, -, hcs⟩ := HL.out.cells hkl
      obtain ⟨hc0, hc1, hc2⟩ := hcs _ ho
      have hkl2 : k < l.length := by rw [← HLL.out, List.length_map]; exact hkl
      have hcn := count_snoc l k hkl2
      have hlk : l[k] = absR hs[k] := by simp only [← HLL.out, List.getElem_map]
      rw [hlk] at hcn
      have hok := (HL.out.ok _ (List.getElem_mem hkl)).sam.len
      have hsm := HC.out (k + 1) (by omega)
      clear hlk
      generalize hs[k] = x at *
      obtain ⟨⟨⟨A1, n1, c1⟩, L⟩, ⟨⟨A2, n2, c2⟩, S⟩, T⟩ := x
      unfold hdV at hc0 hc1
      unfold absR at hcn
      simp only [] at hc0 hc1 hc2 hcn hok
      rw [hok] at hcn
      rw [hcn] at hsm
      generalize count (l.take k) = q at *
      have HO := Lib.hid ho
      have HN := Lib.hid hcn
      have i0 : (0 : Int) ≤ (k : Int) := by omega
      have i1 : (k : Int) < (n : Int) := by omega
      clear ho hln hcs hcn hok
      go_wp2_with fail
      go_roundw
      case rel => exact ⟨k + 1, by omega, by go_num, by rw [HN.out]; go_num, HO.out.alloc HO.out.size _⟩
      case measure => simp [intOf]; omega
    · obtain rfl : k = n := by omega
      have HE : Hid (l.take k = l) := Lib.hid (List.take_of_length_le (by rw [← HLL.out, List.length_map, hln]; exact Nat.le_refl _))
      rw [HE.out] at *
      have HO := Lib.hid ho
      clear ho hln hq HE
      go_wp2_with fail
      go_ret
      exact ⟨rfl, HO.out⟩
set_option maxRecDepth 20000 in
set_option maxHeartbeats 1000000 in
theorem same1_any (x y : SerH) (W : World) (hx : okR W x) (hy : okR W y) (hf : fewB x.1.2 = true) (hf2 : fewB y.1.2 = true) (hn : x.2.1.1.2.1 ≤ 1000000) (hn2 : y.2.1.1.2.1 ≤ 1000000) :
    Calls Try.prog 26 #[serV x, serV y] W fun e W' => e = .returned (.bool (decide (absR x = absR y))) ∧ Below W.heap.size W W' := by
  obtain ⟨⟨⟨A1, n1, c1⟩, L⟩, ⟨⟨A3, n3, c3⟩, S⟩, T⟩ := x
  obtain ⟨⟨⟨A2, n2, c2⟩, L2⟩, ⟨⟨A4, n4, c4⟩, S2⟩, T2⟩ := y
  have K := Lib.hid (fun W' (h : Below W.heap.size W W') => lsame_any A1 n1 c1 L A2 n2 c2 L2 W' (hx.lab.later h) (hy.lab.later h) hf hf2)
  have K2 := Lib.hid (fun W' (h : Below W.heap.size W W') => equalS_any A3 n3 c3 S A4 n4 c4 S2 W' (hx.sam.later h) (hy.sam.later h))
  have HD : Hid (decide (absR ((((A1, n1, c1), L), ((A3, n3, c3), S), T) : SerH) = absR ((((A2, n2, c2), L2), ((A4, n4, c4), S2), T2) : SerH)) = (decide (T = T2) && decide (L = L2) && decide (S = S2))) := Lib.hid (by
    unfold absR
    rw [Bool.eq_iff_iff]
    simp only [Prod.mk.injEq, decide_eq_true_eq, Bool.and_eq_true]
    constructor
    · rintro ⟨h1, h2, h3⟩; exact ⟨⟨h3, h1⟩, h2⟩
    · rintro ⟨⟨h3, h1⟩, h2⟩; exact ⟨h1, h2, h3⟩)
  rw [HD.out]
  obtain ⟨p, hp⟩ : ∃ p, decide (L = L2) = p := ⟨_, rfl⟩
  obtain ⟨q, hq⟩ : ∃ q, decide (S = S2) = q := ⟨_, rfl⟩
  rw [hp] at K ⊢
  rw [hq] at K2 ⊢
  clear hx hy hp hq HD hn hn2 hf hf2
  obtain ⟨W0, hW0⟩ : ∃ W0, W.alloc (.cells #[.slice A1 n1 c1, .slice A3 n3 c3, .int .i64 T] 48) = W0 := ⟨_, rfl⟩
  have hb0 : Below W.heap.size W W0 := by rw [← hW0]; exact (Below.refl _ _).alloc (Nat.le_refl _) _
  have hr0 : W0.heap[W.heap.size]? = some (.cells #[.slice A1 n1 c1, .slice A3 n3 c3, .int .i64 T] 48 (0, 0)) := by rw [← hW0]; exact heap_alloc_new W _
  have hz0 : W0.heap.size = W.heap.size + 1 := by rw [← hW0]; simp
  obtain ⟨W1, hW1⟩ : ∃ W1, W0.alloc (.cells #[.slice A2 n2 c2, .slice A4 n4 c4, .int .i64 T2] 48) = W1 := ⟨_, rfl⟩
  have hb1 : Below W.heap.size W W1 := by rw [← hW1]; exact hb0.alloc hb0.size _
  have hr1 : W1.heap[W.heap.size]? = some (.cells #[.slice A1 n1 c1, .slice A3 n3 c3, .int .i64 T] 48 (0, 0)) := by rw [← hW1]; exact (Below.heap_alloc W0 _ _ (by omega)).trans hr0
  have hr2 : W1.heap[W.heap.size + 1]? = some (.cells #[.slice A2 n2 c2, .slice A4 n4 c4, .int .i64 T2] 48 (0, 0)) := by rw [← hW1, ← hz0]; exact heap_alloc_new W0 _
  have HB := Lib.hid hb1
  have HC := Lib.hid (fun (W' : World) (h : Below W1.heap.size W1 W') => (⟨(h.block _ (Array.getElem?_eq_some_iff.1 hr1).1).trans hr1, (h.block _ (Array.getElem?_eq_some_iff.1 hr2).1).trans hr2⟩ : W'.heap[W.heap.size]? = some (.cells #[.slice A1 n1 c1, .slice A3 n3 c3, .int .i64 T] 48 (0, 0)) ∧ W'.heap[W.heap.size + 1]? = some (.cells #[.slice A2 n2 c2, .slice A4 n4 c4, .int .i64 T2] 48 (0, 0))))
  obtain ⟨x0, x1, x2⟩ : W1.cell? ⟨W.heap.size, 0, none⟩ = some (.slice A1 n1 c1) ∧ W1.cell? ⟨W.heap.size, 1, none⟩ = some (.slice A3 n3 c3) ∧ W1.cell? ⟨W.heap.size, 2, none⟩ = some (.int .i64 T) := by
    refine ⟨?_, ?_, ?_⟩ <;> (rw [cell_of_row _ _ _ _ _ _ hr1]; rfl)
  obtain ⟨y0, y1, y2⟩ : W1.cell? ⟨W.heap.size + 1, 0, none⟩ = some (.slice A2 n2 c2) ∧ W1.cell? ⟨W.heap.size + 1, 1, none⟩ = some (.slice A4 n4 c4) ∧ W1.cell? ⟨W.heap.size + 1, 2, none⟩ = some (.int .i64 T2) := by
    refine ⟨?_, ?_, ?_⟩ <;> (rw [cell_of_row _ _ _ _ _ _ hr2]; rfl)
  clear hb0 hr0 hb1 hr1 hr2
  show Calls Try.prog 26 #[.agg #[.slice A1 n1 c1, .slice A3 n3 c3, .int .i64 T], .agg #[.slice A2 n2 c2, .slice A4 n4 c4, .int .i64 T2]] W _
  by_cases hT : T = T2
  · have HT := Lib.hid hT
    subst hT
    cases p with
    | false =>
      go_enter Try.func26, Try.ntmps26
      go_wp2_with fail
      refine (K.out _ HB.out).mono ?_
      rintro e w1 ⟨rfl, hb⟩
      have HB2 := Lib.hid (later HB.out hb)
      clear hb x0 x1 x2 y0 y1 y2
      go_wp2_with fail
      go_ret
      exact ⟨by simp, HB2.out⟩
    | true =>
      go_enter Try.func26, Try.ntmps26
      go_wp2_with fail
      refine (K.out _ HB.out).mono ?_
      rintro e w1 ⟨rfl, hb⟩
      have HB2 := Lib.hid (later HB.out hb)
      obtain ⟨r1, r2⟩ := HC.out _ hb
      have z1 : w1.cell? ⟨W.heap.size, 1, none⟩ = some (.slice A3 n3 c3) := by rw [cell_of_row _ _ _ _ _ _ r1]; rfl
      have z2 : w1.cell? ⟨W.heap.size + 1, 1, none⟩ = some (.slice A4 n4 c4) := by rw [cell_of_row _ _ _ _ _ _ r2]; rfl
      clear hb x0 x1 x2 y0 y1 y2 r1 r2
      go_wp2_with fail
      refine (K2.out _ HB2.out).mono ?_
      rintro e w2 ⟨rfl, hb⟩
      have HB3 := Lib.hid (later HB2.out hb)
      clear hb z1 z2
      go_wp2_with fail
      go_ret
      exact ⟨by simp, HB3.out⟩
  · have hne : decide (T = T2) = false := decide_eq_false hT
    go_enter Try.func26, Try.ntmps26
    go_wp2_with fail
    go_ret
    exact ⟨by rw [hne]; simp, HB.out⟩
end Go.Proofs.Ytdjgndnllaingaa.TrW
/-
  slices.EqualFunc AT SERIES; truth.Same; truth.allowed: THE WALKS.
-/
namespace Go.Proofs.Ytdjgndnllaingaa.TrW
set_option linter.unusedVariables false
open Go.RowKit Go.Shelf LabM LbM LabW FrW TrM
theorem serOk (x : SerH) : serV x = .agg #[.slice x.1.1.1 x.1.1.2.1 x.1.1.2.2, .slice x.2.1.1.1 x.2.1.1.2.1 x.2.1.1.2.2, .int .i64 x.2.2] := rfl
set_option maxRecDepth 20000 in
set_option maxHeartbeats 2000000 in
theorem equalR_any (A : Option Addr) (n c : Nat) (hs : List SerH) (A2 : Option Addr) (n2 c2 : Nat) (hs2 : List SerH) (w : World) (hl : Sers w A n c hs) (hl2 : Sers w A2 n2 c2 hs2) (hF : FewS hs) (hF2 : FewS hs2) (hS : SmallS hs) (hS2 : SmallS hs2) :
    Calls Try.prog 25 #[.slice A n c, .slice A2 n2 c2, .func (.func 26) #[] #[]] w fun e w' => e = .returned (.bool (decide (hs.map absR = hs2.map absR))) ∧ Below w.heap.size w w' := by
  have HL := Lib.hid hl
  have HL2 := Lib.hid hl2
  have hcap : c ≤ 9223372036854775807 := hl.row.cap
  have hle := hl.row.le
  have hcap2 : c2 ≤ 9223372036854775807 := hl2.row.cap
  have hle2 := hl2.row.le
  have hent := enters_of Try.func26 (by kernel_rfl) rfl
  have KS : Hid (∀ W x y, Below w.heap.size w W → x ∈ hs → y ∈ hs2 → Calls Try.prog 26 #[serV x, serV y] W fun e W' => e = .returned (.bool (decide (absR x = absR y))) ∧ Below W.heap.size W W') := Lib.hid (fun W x y h hx hy =>
    same1_any x y W ((hl.ok x hx).later h) ((hl2.ok y hy).later h) (hF x hx) (hF2 y hy) (by have := (hl.ok x hx).sam.len; have := hS x hx; omega) (by have := (hl2.ok y hy).sam.len; have := hS2 y hy; omega))
  clear hl hl2 hF hF2 hS hS2
  by_cases hnn : n = n2
  · subst hnn
    go_enter Try.func25, Try.ntmps25
    go_wp2_with fail
    go_loopw [17] (fun v5 wr => ∃ k : Nat, k ≤ n ∧ v5 = .int .i64 k ∧ (hs.take k).map absR = (hs2.take k).map absR ∧ Below w.heap.size w wr) (fun v5 _ => n - (intOf v5).toNat)
    case atStart => exact ⟨0, Nat.zero_le _, rfl, rfl, Below.refl _ _⟩
    case round =>
      obtain ⟨k, hk, rfl, ht, ho⟩ := hrel
      have hln := HL.out.row.len
      have hln2 := HL2.out.row.len
      by_cases hlt : k < n
      · have hkl : k < hs.length := by omega
        have hkl2 : k < hs2.length := by omega
        obtain ⟨b, o, rfl, hbl, hcs⟩ := HL.out.cells hkl
        obtain ⟨b2, o2, rfl, hbl2, hcs2⟩ := HL2.out.cells hkl2
        obtain ⟨hc0, hc1, hc2⟩ := hcs _ ho
        have hz := ho.size
        have hd := hcs2
        have K := KS.out
        have hm1 := List.getElem_mem hkl
        have hm2 := List.getElem_mem hkl2
        have hs1 := take_snocL hs k hkl
        have hs2' := take_snocL hs2 k hkl2
        generalize hs[k] = x at *
        generalize hs2[k] = y at *
        have KK := Lib.hid (fun W h => K W x y h hm1 hm2)
        obtain ⟨⟨⟨A1, n1, c1⟩, L⟩, ⟨⟨A3, n3, c3⟩, S⟩, T⟩ := x
        obtain ⟨⟨⟨A2, m2, d2⟩, L2⟩, ⟨⟨A4, n4, c4⟩, S2⟩, T2⟩ := y
        unfold hdV at hc0 hc1 hd
        unfold serV hdV at KK
        simp only [] at hc0 hc1 hc2 hd KK
        obtain ⟨wA, hwA⟩ : ∃ wA, wr.alloc (.cells #[.slice A1 n1 c1, .slice A3 n3 c3, .int .i64 T] 48 (0, 0)) = wA := ⟨_, rfl⟩
        have hoA : Below w.heap.size w wA := by rw [← hwA]; exact ho.alloc hz _
        have hrA : wA.heap[wr.heap.size]? = some (.cells #[.slice A1 n1 c1, .slice A3 n3 c3, .int .i64 T] 48 (0, 0)) := by rw [← hwA]; exact heap_alloc_new wr _
        have hzA : wA.heap.size = wr.heap.size + 1 := by rw [← hwA]; simp
        obtain ⟨hd0, hd1, hd2⟩ := hd _ hoA
        obtain ⟨wB, hwB⟩ : ∃ wB, wA.alloc (.cells #[.slice A2 m2 d2, .slice A4 n4 c4, .int .i64 T2] 48 (0, 0)) = wB := ⟨_, rfl⟩
        have hoB : Below w.heap.size w wB := by rw [← hwB]; exact hoA.alloc hoA.size _
        have hrB : wB.heap[wr.heap.size]? = some (.cells #[.slice A1 n1 c1, .slice A3 n3 c3, .int .i64 T] 48 (0, 0)) := by rw [← hwB]; exact (Below.heap_alloc wA _ _ (by omega)).trans hrA
        have hrC : wB.heap[wr.heap.size + 1]? = some (.cells #[.slice A2 m2 d2, .slice A4 n4 c4, .int .i64 T2] 48 (0, 0)) := by rw [← hwB, ← hzA]; exact heap_alloc_new wA _
        obtain ⟨x0, x1, x2⟩ : wB.cell? ⟨wr.heap.size, 0, none⟩ = some (.slice A1 n1 c1) ∧ wB.cell? ⟨wr.heap.size, 1, none⟩ = some (.slice A3 n3 c3) ∧ wB.cell? ⟨wr.heap.size, 2, none⟩ = some (.int .i64 T) := by
          refine ⟨?_, ?_, ?_⟩ <;> (rw [cell_of_row _ _ _ _ _ _ hrB]; rfl)
        obtain ⟨y0, y1, y2⟩ : wB.cell? ⟨wr.heap.size + 1, 0, none⟩ = some (.slice A2 m2 d2) ∧ wB.cell? ⟨wr.heap.size + 1, 1, none⟩ = some (.slice A4 n4 c4) ∧ wB.cell? ⟨wr.heap.size + 1, 2, none⟩ = some (.int .i64 T2) := by
          refine ⟨?_, ?_, ?_⟩ <;> (rw [cell_of_row _ _ _ _ _ _ hrC]; rfl)
        have HO := Lib.hid hoB
        have HT := Lib.hid (And.intro ht (And.intro hs1 hs2'))
        have i0 : (0 : Int) ≤ (k : Int) := by omega
        have i1 : (k : Int) < (n : Int) := by omega
        clear ho hln hln2 hcs hcs2 hd K hm1 hm2 ht hs1 hs2' hoA hrA hoB hrB hrC hbl hbl2 hz
        by_cases hxy : absR ((((A1, n1, c1), L), ((A3, n3, c3), S), T) : SerH) = absR ((((A2, m2, d2), L2), ((A4, n4, c4), S2), T2) : SerH)
        · rw [decide_eq_true hxy] at KK
          have HX := Lib.hid hxy
          clear hxy
          go_wp2_with fail
          refine (KK.out _ HO.out).mono ?_
          rintro e w1 ⟨rfl, hb1⟩
          have HO2 := Lib.hid (later HO.out hb1)
          clear hb1 hwA hwB hzA hd0 hd1 hd2 x0 x1 x2 y0 y1 y2 hc0 hc1 hc2
          go_wp2_with fail
          go_roundw
          case rel => exact ⟨k + 1, by omega, by go_num, by rw [HT.out.2.1, HT.out.2.2, List.map_append, List.map_append, HT.out.1]; simp only [List.map_cons, List.map_nil, HX.out], HO2.out⟩
          case measure => simp [intOf]; omega
        · rw [decide_eq_false hxy] at KK
          have hno : hs.map absR ≠ hs2.map absR := by
            intro e
            have h1 := congrArg (List.take (k + 1)) e
            rw [← List.map_take, ← List.map_take, HT.out.2.1, HT.out.2.2, List.map_append, List.map_append, HT.out.1] at h1
            have h2 := List.append_cancel_left h1
            simp only [List.map_cons, List.map_nil, List.cons.injEq, and_true] at h2
            exact hxy h2
          have HX := Lib.hid hno
          clear hno hxy
          go_wp2_with fail
          refine (KK.out _ HO.out).mono ?_
          rintro e w1 ⟨rfl, hb1⟩
          have HO2 := Lib.hid (later HO.out hb1)
          clear hb1 hwA hwB hzA hd0 hd1 hd2 x0 x1 x2 y0 y1 y2 hc0 hc1 hc2
          go_wp2_with fail
          go_ret
          exact ⟨by rw [decide_eq_false HX.out]; rfl, HO2.out⟩
      · obtain rfl : k = n := by omega
        rw [List.take_of_length_le (by omega), List.take_of_length_le (by omega)] at ht
        have HO := Lib.hid (And.intro ho ht)
        clear ho ht hln hln2
        go_wp2_with fail
        go_ret
        exact ⟨by rw [decide_eq_true HO.out.2]; rfl, HO.out.1⟩
  · have hno : hs.map absR ≠ hs2.map absR := by
      intro e; apply hnn; rw [← HL.out.row.len, ← HL2.out.row.len]
      have := congrArg List.length e
      simpa using this
    have HX := Lib.hid hno
    have hni : ¬ ((n : Int) = (n2 : Int)) := by omega
    have hne2 : ((n : Int) != (n2 : Int)) = true := by simpa using hni
    clear hni
    clear hno hnn
    go_enter Try.func25, Try.ntmps25
    go_wp2_with fail
    go_ret
    exact ⟨by rw [decide_eq_false HX.out]; rfl, Below.refl _ _⟩
set_option maxHeartbeats 2000000 in
theorem tsame_any (A : Option Addr) (n c : Nat) (hs : List SerH) (f : Int) (A2 : Option Addr) (n2 c2 : Nat) (hs2 : List SerH) (f2 : Int) (w : World) (hl : Sers w A n c hs) (hl2 : Sers w A2 n2 c2 hs2) (hF : FewS hs) (hF2 : FewS hs2) (hS : SmallS hs) (hS2 : SmallS hs2) :
    Calls Try.prog 13 #[.agg #[.slice A n c, .int .i64 f], .agg #[.slice A2 n2 c2, .int .i64 f2]] w fun e w' => e = .returned (.bool (decide (((hs.map absR, f) : St) = (hs2.map absR, f2)))) ∧ Below w.heap.size w w' := by
  have K := Lib.hid (fun W (h : Below w.heap.size w W) => equalR_any A n c hs A2 n2 c2 hs2 W (hl.later h) (hl2.later h) hF hF2 hS hS2)
  have HD : Hid (decide (((hs.map absR, f) : St) = (hs2.map absR, f2)) = (decide (f = f2) && decide (hs.map absR = hs2.map absR))) := Lib.hid (by
    rw [Bool.eq_iff_iff]
    simp only [Prod.mk.injEq, decide_eq_true_eq, Bool.and_eq_true]
    exact ⟨fun ⟨a, b⟩ => ⟨b, a⟩, fun ⟨a, b⟩ => ⟨b, a⟩⟩)
  rw [HD.out]
  obtain ⟨p, hp⟩ : ∃ p, decide (hs.map absR = hs2.map absR) = p := ⟨_, rfl⟩
  rw [hp] at K ⊢
  clear hl hl2 hp HD hF hF2 hS hS2
  obtain ⟨W0, hW0⟩ : ∃ W0, w.alloc (.cells #[.slice A n c, .int .i64 f] 28) = W0 := ⟨_, rfl⟩
  have hb0 : Below w.heap.size w W0 := by rw [← hW0]; exact (Below.refl _ _).alloc (Nat.le_refl _) _
  have hr0 : W0.heap[w.heap.size]? = some (.cells #[.slice A n c, .int .i64 f] 28 (0, 0)) := by rw [← hW0]; exact heap_alloc_new w _
  have hz0 : W0.heap.size = w.heap.size + 1 := by rw [← hW0]; simp
  obtain ⟨W1, hW1⟩ : ∃ W1, W0.alloc (.cells #[.slice A2 n2 c2, .int .i64 f2] 28) = W1 := ⟨_, rfl⟩
  have hb1 : Below w.heap.size w W1 := by rw [← hW1]; exact hb0.alloc hb0.size _
  have hr1 : W1.heap[w.heap.size]? = some (.cells #[.slice A n c, .int .i64 f] 28 (0, 0)) := by rw [← hW1]; exact (Below.heap_alloc W0 _ _ (by omega)).trans hr0
  have hr2 : W1.heap[w.heap.size + 1]? = some (.cells #[.slice A2 n2 c2, .int .i64 f2] 28 (0, 0)) := by rw [← hW1, ← hz0]; exact heap_alloc_new W0 _
  have HB := Lib.hid hb1
  obtain ⟨x0, x1⟩ : W1.cell? ⟨w.heap.size, 0, none⟩ = some (.slice A n c) ∧ W1.cell? ⟨w.heap.size, 1, none⟩ = some (.int .i64 f) := by
    refine ⟨?_, ?_⟩ <;> (rw [cell_of_row _ _ _ _ _ _ hr1]; rfl)
  obtain ⟨y0, y1⟩ : W1.cell? ⟨w.heap.size + 1, 0, none⟩ = some (.slice A2 n2 c2) ∧ W1.cell? ⟨w.heap.size + 1, 1, none⟩ = some (.int .i64 f2) := by
    refine ⟨?_, ?_⟩ <;> (rw [cell_of_row _ _ _ _ _ _ hr2]; rfl)
  clear hb0 hr0 hb1 hr1 hr2
  by_cases hf : f = f2
  · subst hf
    go_enter Try.func13, Try.ntmps13
    go_wp2_with fail
    refine (K.out _ HB.out).mono ?_
    rintro e w1 ⟨rfl, hb⟩
    have HB2 := Lib.hid (later HB.out hb)
    clear hb x0 x1 y0 y1
    go_wp2_with fail
    go_ret
    exact ⟨by simp, HB2.out⟩
  · have hne : decide (f = f2) = false := decide_eq_false hf
    go_enter Try.func13, Try.ntmps13
    go_wp2_with fail
    go_ret
    exact ⟨by rw [hne]; rfl, HB.out⟩
end Go.Proofs.Ytdjgndnllaingaa.TrW
