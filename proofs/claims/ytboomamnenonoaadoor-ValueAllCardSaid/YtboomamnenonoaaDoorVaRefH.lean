/-
  alluviumref05.Get: THE WALK. (Printed by wip/gen/varefh.py.)
-/
import Derived.Test.YtboomamnenonoaaDoorVaRefG
import Derived.Deep.DeepCutAuto
namespace Go.Proofs.YtboomamnenonoaaDoor.VaW
set_option linter.unusedVariables false
open Go.RowKit Go.Shelf BitsM BitsW VaM
/-- What the document's Get tells. -/
def refV (b : List Bool) (s : Sv) : Sv × List Bool × Bool := match getV b s with
  | none => (s, b, false)
  | some (v, k) => (aftV s v, b.drop k, true)
/-- What the document's Get holds the next value for, turned by the last one. -/
def CandR (b : List Bool) (s : Sv) (v0 : Nat) (k : Bool) : Prop := v0 < 18446744073709551616 ∧ ∀ v j, getV b s = some (v, j) → k = true ∧ v = if s.1 = 0 then v0 else v0 ^^^ s.2.1
theorem candR_none {b : List Bool} {s : Sv} (h : getV b s = none) (k : Bool) : CandR b s 0 k := ⟨by decide, fun v j e => by rw [h] at e; cases e⟩
theorem refV_none {b : List Bool} {s : Sv} (h : getV b s = none) : refV b s = (s, b, false) := by unfold refV; rw [h]
theorem cand_first {b : List Bool} {s : Sv} (h0 : s.1 = 0) (hl : 64 ≤ b.length) : CandR b s (numB (b.take 64)) true := by
  refine ⟨by have := numB_take_lt b 64; rw [show (2 : Nat) ^ 64 = 18446744073709551616 by decide] at this; exact this, fun v j e => ?_⟩
  unfold getV at e
  rw [if_pos h0, if_neg (by omega)] at e
  injection e with e
  injection e with e1 e2
  exact ⟨rfl, by rw [if_pos h0, e1]⟩
theorem cand_first_no {b : List Bool} {s : Sv} (h0 : s.1 = 0) (hl : b.length < 64) : getV b s = none := by
  unfold getV; rw [if_pos h0, if_pos hl]
theorem cand_zero {r : List Bool} {s : Sv} (h0 : ¬ s.1 = 0) : CandR (false :: r) s 0 true := by
  refine ⟨by decide, fun v j e => ?_⟩
  unfold getV at e
  rw [if_neg h0] at e
  simp only [] at e
  injection e with e
  injection e with e1 e2
  exact ⟨rfl, by rw [if_neg h0, ← e1, Nat.zero_xor]⟩
theorem cand_in {r : List Bool} {s : Sv} (hs : okV s) (h0 : ¬ s.1 = 0) (hl : 64 - s.2.2.1 - s.2.2.2 ≤ r.length) : CandR (true :: false :: r) s (numB (r.take (64 - s.2.2.1 - s.2.2.2)) * 2 ^ s.2.2.2) true := by
  refine ⟨mul_pow_lt _ _ _ (numB_take_lt r _) (okW_size hs.2), fun v j e => ?_⟩
  unfold getV at e
  rw [if_neg h0] at e
  simp only [] at e
  rw [if_neg (by omega)] at e
  split at e
  · injection e with e
    injection e with e1 e2
    exact ⟨rfl, by rw [if_neg h0, ← e1, Nat.xor_comm]⟩
  · cases e
theorem cand_in_no {r : List Bool} {s : Sv} (h0 : ¬ s.1 = 0) (hl : r.length < 64 - s.2.2.1 - s.2.2.2) : getV (true :: false :: r) s = none := by
  unfold getV; rw [if_neg h0]; simp only []; rw [if_pos hl]
theorem cand_new {r : List Bool} {s : Sv} (h0 : ¬ s.1 = 0) (h1 : 12 ≤ r.length) (h2 : numB (r.take 6) + numB ((r.drop 6).take 6) ≤ 63) (h3 : 12 + (numB ((r.drop 6).take 6) + 1) ≤ r.length) :
    CandR (true :: true :: r) s (numB ((r.drop 12).take (numB ((r.drop 6).take 6) + 1)) * 2 ^ (63 - numB (r.take 6) - numB ((r.drop 6).take 6))) true := by
  refine ⟨?_, fun v j e => ?_⟩
  · have := mul_pow_lt (numB ((r.drop 12).take (numB ((r.drop 6).take 6) + 1))) (numB (r.take 6)) (63 - numB (r.take 6) - numB ((r.drop 6).take 6)) (by
      have h := numB_take_lt (r.drop 12) (numB ((r.drop 6).take 6) + 1)
      rw [show 64 - numB (r.take 6) - (63 - numB (r.take 6) - numB ((r.drop 6).take 6)) = numB ((r.drop 6).take 6) + 1 by omega]; exact h) (by omega)
    exact this
  · unfold getV at e
    rw [if_neg h0] at e
    simp only [] at e
    rw [if_neg (by omega), if_neg (by omega), if_neg (by omega)] at e
    split at e
    · injection e with e
      injection e with e1 e2
      exact ⟨rfl, by rw [if_neg h0, ← e1, Nat.xor_comm]⟩
    · cases e
theorem cand_new_no {r : List Bool} {s : Sv} (h0 : ¬ s.1 = 0) (h : r.length < 12 ∨ 63 < numB (r.take 6) + numB ((r.drop 6).take 6) ∨ r.length < 12 + (numB ((r.drop 6).take 6) + 1)) : getV (true :: true :: r) s = none := by
  unfold getV; rw [if_neg h0]; simp only []
  by_cases h1 : r.length < 12
  · rw [if_pos h1]
  rw [if_neg h1]
  by_cases h2 : 63 < numB (r.take 6) + numB ((r.drop 6).take 6)
  · rw [if_pos h2]
  rw [if_neg h2, if_pos (by omega)]
theorem cand_end {b : List Bool} {s : Sv} {v0 : Nat} {k : Bool} (hs : okV s) (hc : CandR b s v0 k) (v1 : Nat) (hv1 : v1 = if s.1 = 0 then v0 else v0 ^^^ s.2.1) (hlt : v1 < 18446744073709551616) :
    (k = false → refV b s = (s, b, false)) ∧ (b.length < (putV s v1).length → refV b s = (s, b, false)) ∧ (b.take (putV s v1).length ≠ putV s v1 → refV b s = (s, b, false)) ∧
    ((putV s v1).length ≤ b.length → b.take (putV s v1).length = putV s v1 → refV b s = (aftV s v1, b.drop (putV s v1).length, true)) := by
  have key : ∀ v j, getV b s = some (v, j) → k = true ∧ v = v1 ∧ b.take (putV s v1).length = putV s v1 ∧ (putV s v1).length ≤ b.length := fun v j e => by
    obtain ⟨c1, c2⟩ := hc.2 v j e
    obtain ⟨p1, p2, p3, p4⟩ := put_get b s v j hs e
    have ev : v = v1 := by rw [c2, hv1]
    subst ev
    exact ⟨c1, rfl, by rw [← p3]; exact p2, by rw [← p3]; exact p4⟩
  have none_of : (∀ v j, getV b s ≠ some (v, j)) → refV b s = (s, b, false) := fun h => refV_none (by
    cases e : getV b s with
    | none => rfl
    | some p => exact absurd e (h p.1 p.2))
  refine ⟨fun h => none_of fun v j e => ?_, fun h => none_of fun v j e => ?_, fun h => none_of fun v j e => ?_, fun h1 h2 => ?_⟩
  · have := (key v j e).1; rw [h] at this; cases this
  · have := (key v j e).2.2.2; omega
  · exact h (key v j e).2.2.1
  · have e : b = putV s v1 ++ b.drop (putV s v1).length := by conv => lhs; rw [← List.take_append_drop (putV s v1).length b, h2]
    have hg : getV b s = some (v1, (putV s v1).length) := by rw [e]; exact get_put s v1 hs hlt _
    unfold refV; rw [hg]
theorem chr_49 (y : Bool) : (((chr y).toNat : Int) == 49) = y := by cases y <;> decide
theorem chr_48 (y : Bool) : (((chr y).toNat : Int) == 48) = !y := by cases y <;> decide

set_option maxRecDepth 20000 in
set_option maxHeartbeats 8000000 in
theorem rget_any (b : List Bool) (s : Sv) (w : World) (hs : okV s) (hN : s.1 ≤ 4398046511103) (hb : b.length ≤ 1099511627776) :
    Calls Tryd.prog 25 #[.string (bstr b), .agg #[.int .i64 ((s).1 : Int), .int .u64 ((s).2.1 : Int), .int .i64 ((s).2.2.1 : Int), .int .i64 ((s).2.2.2 : Int)]] w fun e w' => e = .returned (.tuple #[.agg #[.int .i64 (((refV b s).1).1 : Int), .int .u64 (((refV b s).1).2.1 : Int), .int .i64 (((refV b s).1).2.2.1 : Int), .int .i64 (((refV b s).1).2.2.2 : Int)], .string (bstr (refV b s).2.1), .bool (refV b s).2.2]) ∧ Below w.heap.size w w' := by
  have HV := Lib.hid (fun W => rvalid_ok s W hs)
  have HOK := Lib.hid hs
  have hw := okW_size hs.2
  have hvv := hs.1
  obtain ⟨N, V, L, T⟩ := s
  simp only [] at hw hN hvv
  have hz := bstr_size b
  have hb1 : ∀ h : 0 < b.length, ∀ h2 : 0 < (bstr b).size, (((bstr b)[0]'h2).toNat : Int) = ((chr (b[0]'h)).toNat : Int) := fun h h2 => by rw [bstr_get]
  have hb2 : ∀ h : 1 < b.length, ∀ h2 : 1 < (bstr b).size, (((bstr b)[1]'h2).toNat : Int) = ((chr (b[1]'h)).toNat : Int) := fun h h2 => by rw [bstr_get]
  have HI := Lib.hid (And.intro hb1 hb2)
  obtain ⟨l, hl⟩ : ∃ l, b.length = l := ⟨_, rfl⟩
  have HL := Lib.hid hl
  rw [hl] at hz hb
  clear hs hb1 hb2 hl
  obtain ⟨Q, hQ⟩ : ∃ Q : Ending → World → Prop, (fun e w' => e = .returned (.tuple #[.agg #[.int .i64 (((refV b (N, V, L, T)).1).1 : Int), .int .u64 (((refV b (N, V, L, T)).1).2.1 : Int), .int .i64 (((refV b (N, V, L, T)).1).2.2.1 : Int), .int .i64 (((refV b (N, V, L, T)).1).2.2.2 : Int)], .string (bstr (refV b (N, V, L, T)).2.1), .bool (refV b (N, V, L, T)).2.2]) ∧ Below w.heap.size w w') = Q := ⟨_, rfl⟩
  have HQ0 : Hid (refV b (N, V, L, T) = ((N, V, L, T), b, false) → ∀ W, Below w.heap.size w W → Q (.returned (.tuple #[.agg #[.int .i64 (N : Int), .int .u64 (V : Int), .int .i64 (L : Int), .int .i64 (T : Int)], .string (bstr b), .bool false])) W) := Lib.hid (by intro h W hb; rw [← hQ, h]; exact ⟨rfl, hb⟩)
  have HQ1 : Hid (∀ (A B C D : Nat) b', refV b (N, V, L, T) = ((A, B, C, D), b', true) → ∀ W, Below w.heap.size w W → Q (.returned (.tuple #[.agg #[.int .i64 (A : Int), .int .u64 (B : Int), .int .i64 (C : Int), .int .i64 (D : Int)], .string (bstr b'), .bool true])) W) := Lib.hid (by intro A B C D b' h W hb; rw [← hQ, h]; exact ⟨rfl, hb⟩)
  rw [hQ]
  clear hQ
  go_enter Tryd.func25, Tryd.ntmps25
  go_wp2_with fail
  refine (HV.out _).mono ?_
  rintro e w1 ⟨rfl, hbb⟩
  have hB1 : Below w.heap.size w w1 := (((Below.refl _ _).alloc (Nat.le_refl _) _).alloc (by simp) _).trans (hbb.mono (by simp; omega))
  have hst1 : RvAt w1 w.heap.size (N, V, L, T) := RvAt.later (W := (w.alloc (RvObj (N, V, L, T))).alloc (RvObj (0, 0, 0, 0))) ((heap_past _ _ (by simp)).trans (heap_alloc_new w _)) hbb
  have hres1 : RvAt w1 (w.heap.size + 1) (0, 0, 0, 0) := RvAt.later (W := (w.alloc (RvObj (N, V, L, T))).alloc (RvObj (0, 0, 0, 0))) (heap_at _ _ (by simp)) hbb
  have HB1 := Lib.hid hB1
  have HST := Lib.hid hst1
  have HRS := Lib.hid hres1
  have c0 := hst1.c0
  have c1 := hst1.c1
  have c2 := hst1.c2
  have c3 := hst1.c3
  simp only [] at c0 c1 c2 c3
  clear hbb hB1 hst1 hres1 HV
  by_cases hl0 : l = 0
  · subst hl0
    have hbn : b = [] := List.eq_nil_of_length_eq_zero HL.out
    have hG : refV b (N, V, L, T) = ((N, V, L, T), b, false) := refV_none (by
      subst hbn
      by_cases h0 : N = 0
      · exact cand_first_no h0 (by decide)
      · unfold getV; rw [if_neg h0])
    have HG := Lib.hid hG
    obtain ⟨X, hX⟩ : ∃ X, bstr b = X := ⟨_, rfl⟩
    rw [hX] at hz HQ0 ⊢
    have hresd := HRS.out
    clear hX hG hbn HI

    have HBD := Lib.hid (show Below w.heap.size w (w1.setRow (w.heap.size + 1) #[.int .i64 (N : Int), .int .u64 (V : Int), .int .i64 (L : Int), .int .i64 (T : Int)]) from below_setRow HB1.out (Nat.le_succ _) _)
    go_wp2_with (refine wpList_store_row rfl 47 _ _ rfl (w.heap.size + 1) #[.int .i64 (N : Int), .int .u64 (V : Int), .int .i64 (L : Int), .int .i64 (T : Int)] rfl rfl 47 _ hresd info_rv rfl (by simp [Value.oneCell']) ?_)
    have hr2 : RvAt (w1.setRow (w.heap.size + 1) #[.int .i64 (N : Int), .int .u64 (V : Int), .int .i64 (L : Int), .int .i64 (T : Int)]) (w.heap.size + 1) (N, V, L, T) := setRow_heap _ _ _ _ _ _ hresd
    have r0 := hr2.c0
    have r1 := hr2.c1
    have r2 := hr2.c2
    have r3 := hr2.c3
    simp only [] at r0 r1 r2 r3
    refine bodyPost_ret (v := .tuple #[.agg #[.int .i64 (N : Int), .int .u64 (V : Int), .int .i64 (L : Int), .int .i64 (T : Int)], .string X, .bool false]) ?_ rfl (HQ0.out HG.out _ HBD.out)
    simp [results, Tryd.results25, go_sem, r0, r1, r2, r3]
  have hlp : 0 < l := by omega
  have hl00 : ((l : Int) == 0) = false := by simp; omega
  have HX := Lib.hid (fun (i j : Nat) (h1 : i ≤ j) (h2 : j ≤ l) => show ∀ w, (Instr.slice 9 (.string (bstr b)) (some (.int .i64 (i : Int))) (some (.int .i64 (j : Int))) none).run Tryd.prog w = .ok (.string (bstr ((b.drop i).take (j - i)))) w from by
    have := slice_mid (P := Tryd.prog) Tryd.underlying9 (bstr b) (i : Int) (j : Int) i j rfl rfl h1 (by rw [hz]; exact h2)
    rw [bstr_extract] at this; exact this)
  have HTY := Lib.hid (fun (p n up : Nat) (W : World) (h1 : p ≤ 100) (h2 : n + up ≤ 64) (h3 : p + n ≤ l) => rtake_yes b p n up W h1 h2 (by rw [HL.out]; exact h3) (by rw [HL.out]; exact hb))
  have HTN := Lib.hid (fun (p : Nat) (n up : Int) (W : World) (h1 : p ≤ 100) (h2 : n ≤ 64) (h3 : n < 0 ∨ (l : Int) < p + n ∨ up < 0) => rtake_no b p n up W h1 h2 (by rw [HL.out]; exact hb) (by rw [HL.out]; exact h3))
  have HSA := Lib.hid (fun (n : Nat) (h : n ≤ l) => show ∀ w, (Instr.slice 9 (.string (bstr b)) none (some (.int .i64 (n : Int))) none).run Tryd.prog w = .ok (.string (bstr (b.take n))) w from by
    have := slice_to (P := Tryd.prog) Tryd.underlying9 (bstr b) (n : Int) n rfl (by rw [hz]; exact h)
    rw [bstr_extract] at this
    simp only [List.drop_zero, Nat.sub_zero] at this; exact this)
  have HSB := Lib.hid (fun (n : Nat) (h : n ≤ l) => show ∀ w, (Instr.slice 9 (.string (bstr b)) (some (.int .i64 (n : Int))) none none).run Tryd.prog w = .ok (.string (bstr (b.drop n))) w from by
    have := slice_from (P := Tryd.prog) Tryd.underlying9 (bstr b) (n : Int) n rfl (by rw [hz]; exact h)
    rw [bstr_extract, bstr_size, List.take_of_length_le (by rw [List.length_drop]; omega)] at this
    exact this)
  obtain ⟨X, hX⟩ : ∃ X, bstr b = X := ⟨_, rfl⟩
  have HXB := Lib.hid hX
  rw [hX] at hz HX HTY HTN HSA HSB HQ0 ⊢
  have HI0 : Hid (∀ h : 0 < b.length, ∀ h2 : 0 < X.size, ((X[0]'h2).toNat : Int) = ((chr (b[0]'h)).toNat : Int)) := Lib.hid (by subst hX; exact HI.out.1)
  have HI1 : Hid (∀ h : 1 < b.length, ∀ h2 : 1 < X.size, ((X[1]'h2).toNat : Int) = ((chr (b[1]'h)).toNat : Int)) := Lib.hid (by subst hX; exact HI.out.2)
  clear hX HI
  go_upto_if 25 with fail
  go_cut [7, 8] from 13 (fun s7 s8 W => ∃ (v0 : Nat) (k : Bool), s7 = .int .u64 (v0 : Int) ∧ s8 = .bool k ∧ CandR b (N, V, L, T) v0 k ∧ w1 = W)
  case first =>
    by_cases h0 : N = 0
    · subst h0
      have HC0 := Lib.hid (trivial : True)
      by_cases h64 : 64 ≤ l
      · have K : Hid (∀ W, Calls Tryd.prog 37 #[.string X, .int .i64 0, .int .i64 64, .int .i64 0] W fun e w' => e = .returned (.tuple #[.int .u64 ((numB (b.take 64) : Nat) : Int), .bool true]) ∧ W = w') := Lib.hid (fun W => by
          have h := HTY.out 0 64 0 W (by omega) (by omega) (by omega)
          rw [List.drop_zero, Nat.pow_zero, Nat.mul_one] at h
          exact h)
        have hc := Lib.hid (cand_first (b := b) (s := (0, V, L, T)) rfl (by rw [HL.out]; exact h64))
        clear HI0 HI1 HX HTY HTN HSA HSB
        go_wp2_with fail
        refine (K.out _).mono ?_
        rintro e w' ⟨rfl, rfl⟩
        go_wp2_with fail
        go_meet
        case rel => exact ⟨_, _, rfl, rfl, hc.out, rfl⟩
      · have K : Hid (∀ W, Calls Tryd.prog 37 #[.string X, .int .i64 0, .int .i64 64, .int .i64 0] W fun e w' => e = .returned (.tuple #[.int .u64 0, .bool false]) ∧ W = w') := Lib.hid (fun W => by
          exact HTN.out 0 64 0 W (by omega) (by omega) (by omega))
        have hc := Lib.hid (candR_none (cand_first_no (b := b) (s := (0, V, L, T)) rfl (by rw [HL.out]; omega)) false)
        clear HI0 HI1 HX HTY HTN HSA HSB
        go_wp2_with fail
        refine (K.out _).mono ?_
        rintro e w' ⟨rfl, rfl⟩
        go_wp2_with fail
        go_meet
        case rel => exact ⟨_, _, rfl, rfl, hc.out, rfl⟩
    have hn0 : ((N : Int) == 0) = false := by simp; omega
    have h0' : ¬ (N, V, L, T).1 = 0 := h0
    cases b with
    | nil => exact absurd HL.out (by simp; omega)
    | cons y0 r =>
    have hll : r.length + 1 = l := HL.out
    have hx0 : ∀ h2 : 0 < X.size, ((X[0]'h2).toNat : Int) = ((chr y0).toNat : Int) := fun h2 => HI0.out (by simp) h2
    cases y0 with
    | false =>
      have hx00 := hx0 (by omega)
      rw [show ((chr false).toNat : Int) = 48 from rfl] at hx00
      have hc := Lib.hid (cand_zero (r := r) (s := (N, V, L, T)) h0')
      clear HI0 HI1 HX HTY HTN HSA HSB hx0
      go_wp2_with fail
      go_meet
      case rel => exact ⟨0, true, rfl, rfl, hc.out, rfl⟩
    | true =>
    have hx00 := hx0 (by omega)
    rw [show ((chr true).toNat : Int) = 49 from rfl] at hx00
    cases r with
    | nil =>
      have hl1 : l = 1 := by rw [← hll]; rfl
      subst hl1
      have hc := Lib.hid (candR_none (b := [true]) (s := (N, V, L, T)) (by unfold getV; rw [if_neg h0']) false)
      clear HI0 HI1 HX HTY HTN HSA HSB hx0
      go_wp2_with fail
      go_meet
      case rel => exact ⟨0, false, rfl, rfl, hc.out, rfl⟩
    | cons y1 r2 =>
    have hl2 : r2.length + 2 = l := by rw [← hll]; rfl
    have hx1 : ∀ h2 : 1 < X.size, ((X[1]'h2).toNat : Int) = ((chr y1).toNat : Int) := fun h2 => HI1.out (by simp) h2
    have hx11 := hx1 (by omega)
    have hgt : (l : Int) > 1 := by omega
    cases y1 with
    | false =>
      rw [show ((chr false).toNat : Int) = 48 from rfl] at hx11
      obtain ⟨m, hm⟩ : ∃ m, 64 - L - T = m := ⟨_, rfl⟩
      have hmi : 64 - (L : Int) - (T : Int) = (m : Int) := by omega
      by_cases hlen : 2 + m ≤ l
      · have K : Hid (∀ W, Calls Tryd.prog 37 #[.string X, .int .i64 2, .int .i64 (m : Int), .int .i64 (T : Int)] W fun e w' => e = .returned (.tuple #[.int .u64 ((numB (r2.take m) * 2 ^ T : Nat) : Int), .bool true]) ∧ W = w') := Lib.hid (fun W => by
          exact HTY.out 2 m T W (by omega) (by omega) hlen)
        have hc := cand_in (r := r2) (s := (N, V, L, T)) HOK.out h0' (by simp only []; omega)
        simp only [hm] at hc
        have HC := Lib.hid hc
        have m0 : (0 : Int) ≤ (m : Int) := by omega
        clear HI0 HI1 HX HTY HTN HSA HSB hx0 hx1 hc
        go_wp2_with fail
        refine (K.out _).mono ?_
        rintro e w' ⟨rfl, rfl⟩
        go_wp2_with fail
        go_meet
        case rel => exact ⟨_, _, rfl, rfl, HC.out, rfl⟩
      · have K : Hid (∀ W, Calls Tryd.prog 37 #[.string X, .int .i64 2, .int .i64 (m : Int), .int .i64 (T : Int)] W fun e w' => e = .returned (.tuple #[.int .u64 0, .bool false]) ∧ W = w') := Lib.hid (fun W => by
          exact HTN.out 2 (m : Int) (T : Int) W (by omega) (by omega) (by omega))
        have HC := Lib.hid (candR_none (cand_in_no (r := r2) (s := (N, V, L, T)) h0' (by simp only []; omega)) false)
        have m0 : (0 : Int) ≤ (m : Int) := by omega
        clear HI0 HI1 HX HTY HTN HSA HSB hx0 hx1
        go_wp2_with fail
        refine (K.out _).mono ?_
        rintro e w' ⟨rfl, rfl⟩
        go_wp2_with fail
        go_meet
        case rel => exact ⟨_, _, rfl, rfl, HC.out, rfl⟩
    | true =>
      rw [show ((chr true).toNat : Int) = 49 from rfl] at hx11
      by_cases h14 : 14 ≤ l
      · have hs1 : ∀ w, (Instr.slice 9 (.string X) (some (.int .i64 2)) (some (.int .i64 8)) none).run Tryd.prog w = .ok (.string (bstr (((true :: true :: r2).drop 2).take (8 - 2)))) w := HX.out 2 8 (by omega) (by omega)
        have hs2 : ∀ w, (Instr.slice 9 (.string X) (some (.int .i64 8)) (some (.int .i64 14)) none).run Tryd.prog w = .ok (.string (bstr (((true :: true :: r2).drop 8).take (14 - 8)))) w := HX.out 8 14 (by omega) (by omega)
        have e1 : ((true :: true :: r2).drop 2).take (8 - 2) = r2.take 6 := rfl
        have e2 : ((true :: true :: r2).drop 8).take (14 - 8) = (r2.drop 6).take 6 := rfl
        rw [e1] at hs1
        rw [e2] at hs2
        have HN1 := Lib.hid (fun W => rnumber_any (r2.take 6) W (by rw [List.length_take]; omega))
        have HN2 := Lib.hid (fun W => rnumber_any ((r2.drop 6).take 6) W (by rw [List.length_take]; omega))
        have b1 := numB_take_lt r2 6
        have b2 := numB_take_lt (r2.drop 6) 6
        obtain ⟨A, hA⟩ : ∃ A, numB (r2.take 6) = A := ⟨_, rfl⟩
        obtain ⟨B, hB⟩ : ∃ A, numB ((r2.drop 6).take 6) = A := ⟨_, rfl⟩
        rw [hA] at HN1 b1
        rw [hB] at HN2 b2
        have hcn := cand_new (r := r2) (s := (N, V, L, T)) h0' (by omega)
        have hcx := cand_new_no (r := r2) (s := (N, V, L, T)) h0'
        rw [hA, hB] at hcn hcx
        obtain ⟨Y1, hY1⟩ : ∃ Y, bstr (r2.take 6) = Y := ⟨_, rfl⟩
        obtain ⟨Y2, hY2⟩ : ∃ Y, bstr ((r2.drop 6).take 6) = Y := ⟨_, rfl⟩
        rw [hY1] at hs1 HN1
        rw [hY2] at hs2 HN2
        have hge : (l : Int) ≥ 14 := by omega
        have h63 : A ≤ 63 ∧ B ≤ 63 := by omega
        obtain ⟨hA63, hB63⟩ := h63
        by_cases hok : A + B ≤ 63 ∧ 12 + (B + 1) ≤ r2.length
        · have K : Hid (∀ W, Calls Tryd.prog 37 #[.string X, .int .i64 14, .int .i64 ((B : Int) + 1), .int .i64 (64 - (A : Int) - ((B : Int) + 1))] W fun e w' => e = .returned (.tuple #[.int .u64 ((numB ((r2.drop 12).take (B + 1)) * 2 ^ (63 - A - B) : Nat) : Int), .bool true]) ∧ W = w') := Lib.hid (fun W => by
            have h := HTY.out 14 (B + 1) (63 - A - B) W (by omega) (by omega) (by omega)
            rw [show ((63 - A - B : Nat) : Int) = 64 - (A : Int) - ((B : Int) + 1) by omega, show ((B + 1 : Nat) : Int) = (B : Int) + 1 by omega] at h
            exact h)
          have HC := Lib.hid (hcn hok.1 hok.2)
          clear HI0 HI1 HX HTY HTN HSA HSB hx0 hx1 hcn hcx hok hY1 hY2 hA hB
          go_wp2_with fail
          refine (HN1.out _).mono ?_
          rintro e w' ⟨rfl, rfl⟩
          go_wp2_with fail
          refine (HN2.out _).mono ?_
          rintro e w' ⟨rfl, rfl⟩
          go_wp2_with fail
          refine (K.out _).mono ?_
          rintro e w' ⟨rfl, rfl⟩
          go_wp2_with fail
          go_meet
          case rel => exact ⟨_, _, rfl, rfl, HC.out, rfl⟩
        · have K : Hid (∀ W, Calls Tryd.prog 37 #[.string X, .int .i64 14, .int .i64 ((B : Int) + 1), .int .i64 (64 - (A : Int) - ((B : Int) + 1))] W fun e w' => e = .returned (.tuple #[.int .u64 0, .bool false]) ∧ W = w') := Lib.hid (fun W => by
            exact HTN.out 14 ((B : Int) + 1) (64 - (A : Int) - ((B : Int) + 1)) W (by omega) (by omega) (by omega))
          have HC := Lib.hid (candR_none (hcx (by omega)) false)
          clear HI0 HI1 HX HTY HTN HSA HSB hx0 hx1 hcn hcx hok hY1 hY2 hA hB
          go_wp2_with fail
          refine (HN1.out _).mono ?_
          rintro e w' ⟨rfl, rfl⟩
          go_wp2_with fail
          refine (HN2.out _).mono ?_
          rintro e w' ⟨rfl, rfl⟩
          go_wp2_with fail
          refine (K.out _).mono ?_
          rintro e w' ⟨rfl, rfl⟩
          go_wp2_with fail
          go_meet
          case rel => exact ⟨_, _, rfl, rfl, HC.out, rfl⟩
      · have HC := Lib.hid (candR_none (cand_new_no (r := r2) (s := (N, V, L, T)) h0' (by left; omega)) false)
        have hlt14 : ¬ (l : Int) ≥ 14 := by omega
        clear HI0 HI1 HX HTY HTN HSA HSB hx0 hx1
        go_wp2_with fail
        go_meet
        case rel => exact ⟨0, false, rfl, rfl, HC.out, rfl⟩
  case rest =>
    obtain ⟨v0, k, rfl, rfl, hcand, rfl⟩ := hcut
    have hv0 := hcand.1
    by_cases h0 : N = 0
    · have hn0 : ¬ (N : Int) > 0 := by omega
      have hE := cand_end HOK.out hcand v0 (by rw [if_pos (show (N, V, L, T).1 = 0 from h0)]) hv0
      have HE := Lib.hid hE
      have HP := Lib.hid (fun W => rput_any (N, V, L, T) v0 W HOK.out hv0 (by show N ≤ _; omega))
      clear hE hcand h0
      go_wp2_with fail
      refine (HP.out _).mono ?_
      rintro e w3 ⟨rfl, hb3⟩
      obtain ⟨P, hP⟩ : ∃ P, putV (N, V, L, T) v0 = P := ⟨_, rfl⟩
      obtain ⟨s', hs'⟩ : ∃ s', aftV (N, V, L, T) v0 = s' := ⟨_, rfl⟩
      rw [hP, hs'] at HE
      rw [hP, hs']
      obtain ⟨A, B, C, D⟩ := s'
      obtain ⟨w4, hw4⟩ : ∃ w4, w3.alloc (.cells #[.int .i64 (A : Int), .int .u64 (B : Int), .int .i64 (C : Int), .int .i64 (D : Int)] 47 (0, 0)) = w4 := ⟨_, rfl⟩
      have hb34 : Below w3.heap.size w3 w4 := by rw [← hw4]; exact (Below.refl _ _).alloc (Nat.le_refl _) _
      have HB4 := Lib.hid (later (later HB1.out hb3) hb34)
      have hst4 : RvAt w4 w.heap.size (N, V, L, T) := (HST.out.later hb3).later hb34
      have hr4 : RvAt w4 (w.heap.size + 1) (0, 0, 0, 0) := (HRS.out.later hb3).later hb34
      have ht4 : RvAt w4 w3.heap.size (A, B, C, D) := by rw [← hw4]; exact heap_alloc_new w3 _
      have HR4 := Lib.hid hr4
      have c0 := hst4.c0
      have c1 := hst4.c1
      have c2 := hst4.c2
      have c3 := hst4.c3
      have d0 : w4.cell? ⟨w.heap.size + 1, 0, none⟩ = some (.int .i64 0) := hr4.c0
      have d1 : w4.cell? ⟨w.heap.size + 1, 1, none⟩ = some (.int .u64 0) := hr4.c1
      have d2 : w4.cell? ⟨w.heap.size + 1, 2, none⟩ = some (.int .i64 0) := hr4.c2
      have d3 : w4.cell? ⟨w.heap.size + 1, 3, none⟩ = some (.int .i64 0) := hr4.c3
      have k0 := ht4.c0
      have k1 := ht4.c1
      have k2 := ht4.c2
      have k3 := ht4.c3
      have f0 : w4.frozen? ⟨w.heap.size + 1, 0, none⟩ = false := frozen_of_row w4 _ 0 _ _ hr4
      have f1 : w4.frozen? ⟨w.heap.size + 1, 1, none⟩ = false := frozen_of_row w4 _ 1 _ _ hr4
      have f2 : w4.frozen? ⟨w.heap.size + 1, 2, none⟩ = false := frozen_of_row w4 _ 2 _ _ hr4
      have f3 : w4.frozen? ⟨w.heap.size + 1, 3, none⟩ = false := frozen_of_row w4 _ 3 _ _ hr4
      simp only [] at c0 c1 c2 c3 k0 k1 k2 k3
      clear hst4 hr4 ht4 hb34 hb3 hP hs' HP
      have hpz := bstr_size P
      obtain ⟨e1, e2, e3, e4⟩ := HE.out
      obtain ⟨q, hq⟩ : ∃ q, P.length = q := ⟨_, rfl⟩
      rw [hq] at hpz e2 e3 e4
      rw [HL.out] at e2 e4
      clear HE hq
      cases k with
      | false =>
        have HG := Lib.hid (e1 rfl)
        clear e1 e2 e3 e4
        obtain ⟨PS, hPS⟩ : ∃ PS, bstr P = PS := ⟨_, rfl⟩
        rw [hPS] at hpz ⊢
        clear hPS
        go_wp2_with fail
        have hfr := rset4_row (s := (N, V, L, T)) HR4.out
        have hfb := rset4_below (.int .i64 (N : Int)) (.int .u64 (V : Int)) (.int .i64 (L : Int)) (.int .i64 (T : Int)) HB4.out (show w.heap.size ≤ w.heap.size + 1 by omega)
        have hfr : RvAt ((((w4.setCell ⟨w.heap.size + 1, 0, none⟩ (.int .i64 (N : Int))).setCell ⟨w.heap.size + 1, 1, none⟩ (.int .u64 (V : Int))).setCell ⟨w.heap.size + 1, 2, none⟩ (.int .i64 (L : Int))).setCell ⟨w.heap.size + 1, 3, none⟩ (.int .i64 (T : Int))) (w.heap.size + 1) (N, V, L, T) := hfr
        generalize ((((w4.setCell ⟨w.heap.size + 1, 0, none⟩ (.int .i64 (N : Int))).setCell ⟨w.heap.size + 1, 1, none⟩ (.int .u64 (V : Int))).setCell ⟨w.heap.size + 1, 2, none⟩ (.int .i64 (L : Int))).setCell ⟨w.heap.size + 1, 3, none⟩ (.int .i64 (T : Int))) = w9 at hfr hfb ⊢
        have hfr : RvAt w9 (w.heap.size + 1) (N, V, L, T) := hfr
        have r0 := hfr.c0
        have r1 := hfr.c1
        have r2 := hfr.c2
        have r3 := hfr.c3
        have HFB := Lib.hid hfb
        simp only [] at r0 r1 r2 r3
        clear hfr hfb d0 d1 d2 d3 f0 f1 f2 f3 c0 c1 c2 c3 k0 k1 k2 k3
        skip
        refine bodyPost_ret (v := .tuple #[.agg #[.int .i64 (N : Int), .int .u64 (V : Int), .int .i64 (L : Int), .int .i64 (T : Int)], .string X, .bool false]) ?_ rfl (HQ0.out HG.out _ HFB.out)
        simp [results, Tryd.results25, go_sem, r0, r1, r2, r3]
      | true =>
        by_cases hpl : q ≤ l
        · have hsl := HSA.out q hpl
          by_cases hpt : b.take q = P
          · have HG := Lib.hid (e4 hpl hpt)
            have hsm := HSB.out q hpl
            rw [hpt] at hsl
            have HQ9 := Lib.hid (HQ1.out A B C D (b.drop q) HG.out)
            clear hpt e1 e2 e3 e4 HG
            obtain ⟨PS, hPS⟩ : ∃ PS, bstr P = PS := ⟨_, rfl⟩
            obtain ⟨RS, hRS⟩ : ∃ PS, bstr (b.drop q) = PS := ⟨_, rfl⟩
            rw [hPS] at hpz hsl ⊢
            rw [hRS] at hsm HQ9
            clear hPS hRS HSA HSB HX HTY HTN HI0 HI1
            go_wp2_with fail
            go_region
            have hfr := rset4_row (s := (A, B, C, D)) HR4.out
            have hfb := rset4_below (.int .i64 (A : Int)) (.int .u64 (B : Int)) (.int .i64 (C : Int)) (.int .i64 (D : Int)) HB4.out (show w.heap.size ≤ w.heap.size + 1 by omega)
            have hfr : RvAt ((((w4.setCell ⟨w.heap.size + 1, 0, none⟩ (.int .i64 (A : Int))).setCell ⟨w.heap.size + 1, 1, none⟩ (.int .u64 (B : Int))).setCell ⟨w.heap.size + 1, 2, none⟩ (.int .i64 (C : Int))).setCell ⟨w.heap.size + 1, 3, none⟩ (.int .i64 (D : Int))) (w.heap.size + 1) (A, B, C, D) := hfr
            generalize ((((w4.setCell ⟨w.heap.size + 1, 0, none⟩ (.int .i64 (A : Int))).setCell ⟨w.heap.size + 1, 1, none⟩ (.int .u64 (B : Int))).setCell ⟨w.heap.size + 1, 2, none⟩ (.int .i64 (C : Int))).setCell ⟨w.heap.size + 1, 3, none⟩ (.int .i64 (D : Int))) = w9 at hfr hfb ⊢
            have hfr : RvAt w9.drew (w.heap.size + 1) (A, B, C, D) := hfr
            have r0 := hfr.c0
            have r1 := hfr.c1
            have r2 := hfr.c2
            have r3 := hfr.c3
            have HFB := Lib.hid hfb
            simp only [] at r0 r1 r2 r3
            clear hfr hfb d0 d1 d2 d3 f0 f1 f2 f3 c0 c1 c2 c3 k0 k1 k2 k3
            go_wp2
            refine bodyPost_ret (v := .tuple #[.agg #[.int .i64 (A : Int), .int .u64 (B : Int), .int .i64 (C : Int), .int .i64 (D : Int)], .string RS, .bool true]) ?_ rfl (HQ9.out _ (HFB.out.trans ⟨rfl, rfl, rfl, Nat.le_refl _, fun _ _ => rfl⟩))
            simp [results, Tryd.results25, go_sem, r0, r1, r2, r3]
          · have HG := Lib.hid (e3 hpt)
            have hne : ((bstr (b.take q)).toList == (bstr P).toList) = false := by
              rw [beq_eq_false_iff_ne]
              intro h
              apply hpt
              apply bstr_inj
              apply ByteArray.ext
              apply Array.ext'
              rw [ByteArray.toList_eq, ByteArray.toList_eq] at h
              exact h
            clear hpt e1 e2 e3 e4
            obtain ⟨PS, hPS⟩ : ∃ PS, bstr P = PS := ⟨_, rfl⟩
            obtain ⟨RS, hRS⟩ : ∃ PS, bstr (b.take q) = PS := ⟨_, rfl⟩
            rw [hPS] at hpz hne ⊢
            rw [hRS] at hsl hne
            clear hPS hRS HSA HSB HX HTY HTN HI0 HI1
            have hne2 : (RS.toList != PS.toList) = true := by rw [bne, hne]; rfl
            go_wp2_with fail
            have hfr := rset4_row (s := (N, V, L, T)) HR4.out
            have hfb := rset4_below (.int .i64 (N : Int)) (.int .u64 (V : Int)) (.int .i64 (L : Int)) (.int .i64 (T : Int)) HB4.out (show w.heap.size ≤ w.heap.size + 1 by omega)
            have hfr : RvAt ((((w4.setCell ⟨w.heap.size + 1, 0, none⟩ (.int .i64 (N : Int))).setCell ⟨w.heap.size + 1, 1, none⟩ (.int .u64 (V : Int))).setCell ⟨w.heap.size + 1, 2, none⟩ (.int .i64 (L : Int))).setCell ⟨w.heap.size + 1, 3, none⟩ (.int .i64 (T : Int))) (w.heap.size + 1) (N, V, L, T) := hfr
            generalize ((((w4.setCell ⟨w.heap.size + 1, 0, none⟩ (.int .i64 (N : Int))).setCell ⟨w.heap.size + 1, 1, none⟩ (.int .u64 (V : Int))).setCell ⟨w.heap.size + 1, 2, none⟩ (.int .i64 (L : Int))).setCell ⟨w.heap.size + 1, 3, none⟩ (.int .i64 (T : Int))) = w9 at hfr hfb ⊢
            have hfr : RvAt w9 (w.heap.size + 1) (N, V, L, T) := hfr
            have r0 := hfr.c0
            have r1 := hfr.c1
            have r2 := hfr.c2
            have r3 := hfr.c3
            have HFB := Lib.hid hfb
            simp only [] at r0 r1 r2 r3
            clear hfr hfb d0 d1 d2 d3 f0 f1 f2 f3 c0 c1 c2 c3 k0 k1 k2 k3
            skip
            refine bodyPost_ret (v := .tuple #[.agg #[.int .i64 (N : Int), .int .u64 (V : Int), .int .i64 (L : Int), .int .i64 (T : Int)], .string X, .bool false]) ?_ rfl (HQ0.out HG.out _ HFB.out)
            simp [results, Tryd.results25, go_sem, r0, r1, r2, r3]
        · have HG := Lib.hid (e2 (by omega))
          clear e1 e2 e3 e4
          obtain ⟨PS, hPS⟩ : ∃ PS, bstr P = PS := ⟨_, rfl⟩
          rw [hPS] at hpz ⊢
          clear hPS HSA HSB HX HTY HTN HI0 HI1
          go_wp2_with fail
          have hfr := rset4_row (s := (N, V, L, T)) HR4.out
          have hfb := rset4_below (.int .i64 (N : Int)) (.int .u64 (V : Int)) (.int .i64 (L : Int)) (.int .i64 (T : Int)) HB4.out (show w.heap.size ≤ w.heap.size + 1 by omega)
          have hfr : RvAt ((((w4.setCell ⟨w.heap.size + 1, 0, none⟩ (.int .i64 (N : Int))).setCell ⟨w.heap.size + 1, 1, none⟩ (.int .u64 (V : Int))).setCell ⟨w.heap.size + 1, 2, none⟩ (.int .i64 (L : Int))).setCell ⟨w.heap.size + 1, 3, none⟩ (.int .i64 (T : Int))) (w.heap.size + 1) (N, V, L, T) := hfr
          generalize ((((w4.setCell ⟨w.heap.size + 1, 0, none⟩ (.int .i64 (N : Int))).setCell ⟨w.heap.size + 1, 1, none⟩ (.int .u64 (V : Int))).setCell ⟨w.heap.size + 1, 2, none⟩ (.int .i64 (L : Int))).setCell ⟨w.heap.size + 1, 3, none⟩ (.int .i64 (T : Int))) = w9 at hfr hfb ⊢
          have hfr : RvAt w9 (w.heap.size + 1) (N, V, L, T) := hfr
          have r0 := hfr.c0
          have r1 := hfr.c1
          have r2 := hfr.c2
          have r3 := hfr.c3
          have HFB := Lib.hid hfb
          simp only [] at r0 r1 r2 r3
          clear hfr hfb d0 d1 d2 d3 f0 f1 f2 f3 c0 c1 c2 c3 k0 k1 k2 k3
          skip
          refine bodyPost_ret (v := .tuple #[.agg #[.int .i64 (N : Int), .int .u64 (V : Int), .int .i64 (L : Int), .int .i64 (T : Int)], .string X, .bool false]) ?_ rfl (HQ0.out HG.out _ HFB.out)
          simp [results, Tryd.results25, go_sem, r0, r1, r2, r3]
    · have hn0 : (N : Int) > 0 := by omega
      have hxr := bits_xor_u64_nat v0 V hv0 hvv
      have hv1 := xor_lt hv0 hvv
      have hE := cand_end HOK.out hcand (v0 ^^^ V) (by rw [if_neg (show ¬ (N, V, L, T).1 = 0 from h0)]) hv1
      have HE0 := Lib.hid hE
      have HP0 := Lib.hid (fun W => rput_any (N, V, L, T) (v0 ^^^ V) W HOK.out hv1 (by show N ≤ _; omega))
      clear hE hcand h0
      obtain ⟨v1, hv1e⟩ : ∃ v1, v0 ^^^ V = v1 := ⟨_, rfl⟩
      rw [hv1e] at hxr hv1 HE0 HP0
      have HE := Lib.hid HE0.out
      have HP := Lib.hid HP0.out
      clear hv1e HE0 HP0
      go_wp2_with fail
      refine (HP.out _).mono ?_
      rintro e w3 ⟨rfl, hb3⟩
      obtain ⟨P, hP⟩ : ∃ P, putV (N, V, L, T) v1 = P := ⟨_, rfl⟩
      obtain ⟨s', hs'⟩ : ∃ s', aftV (N, V, L, T) v1 = s' := ⟨_, rfl⟩
      rw [hP, hs'] at HE
      rw [hP, hs']
      obtain ⟨A, B, C, D⟩ := s'
      obtain ⟨w4, hw4⟩ : ∃ w4, w3.alloc (.cells #[.int .i64 (A : Int), .int .u64 (B : Int), .int .i64 (C : Int), .int .i64 (D : Int)] 47 (0, 0)) = w4 := ⟨_, rfl⟩
      have hb34 : Below w3.heap.size w3 w4 := by rw [← hw4]; exact (Below.refl _ _).alloc (Nat.le_refl _) _
      have HB4 := Lib.hid (later (later HB1.out hb3) hb34)
      have hst4 : RvAt w4 w.heap.size (N, V, L, T) := (HST.out.later hb3).later hb34
      have hr4 : RvAt w4 (w.heap.size + 1) (0, 0, 0, 0) := (HRS.out.later hb3).later hb34
      have ht4 : RvAt w4 w3.heap.size (A, B, C, D) := by rw [← hw4]; exact heap_alloc_new w3 _
      have HR4 := Lib.hid hr4
      have c0 := hst4.c0
      have c1 := hst4.c1
      have c2 := hst4.c2
      have c3 := hst4.c3
      have d0 : w4.cell? ⟨w.heap.size + 1, 0, none⟩ = some (.int .i64 0) := hr4.c0
      have d1 : w4.cell? ⟨w.heap.size + 1, 1, none⟩ = some (.int .u64 0) := hr4.c1
      have d2 : w4.cell? ⟨w.heap.size + 1, 2, none⟩ = some (.int .i64 0) := hr4.c2
      have d3 : w4.cell? ⟨w.heap.size + 1, 3, none⟩ = some (.int .i64 0) := hr4.c3
      have k0 := ht4.c0
      have k1 := ht4.c1
      have k2 := ht4.c2
      have k3 := ht4.c3
      have f0 : w4.frozen? ⟨w.heap.size + 1, 0, none⟩ = false := frozen_of_row w4 _ 0 _ _ hr4
      have f1 : w4.frozen? ⟨w.heap.size + 1, 1, none⟩ = false := frozen_of_row w4 _ 1 _ _ hr4
      have f2 : w4.frozen? ⟨w.heap.size + 1, 2, none⟩ = false := frozen_of_row w4 _ 2 _ _ hr4
      have f3 : w4.frozen? ⟨w.heap.size + 1, 3, none⟩ = false := frozen_of_row w4 _ 3 _ _ hr4
      simp only [] at c0 c1 c2 c3 k0 k1 k2 k3
      clear hst4 hr4 ht4 hb34 hb3 hP hs' HP
      have hpz := bstr_size P
      obtain ⟨e1, e2, e3, e4⟩ := HE.out
      obtain ⟨q, hq⟩ : ∃ q, P.length = q := ⟨_, rfl⟩
      rw [hq] at hpz e2 e3 e4
      rw [HL.out] at e2 e4
      clear HE hq
      cases k with
      | false =>
        have HG := Lib.hid (e1 rfl)
        clear e1 e2 e3 e4
        obtain ⟨PS, hPS⟩ : ∃ PS, bstr P = PS := ⟨_, rfl⟩
        rw [hPS] at hpz ⊢
        clear hPS
        go_wp2_with fail
        have hfr := rset4_row (s := (N, V, L, T)) HR4.out
        have hfb := rset4_below (.int .i64 (N : Int)) (.int .u64 (V : Int)) (.int .i64 (L : Int)) (.int .i64 (T : Int)) HB4.out (show w.heap.size ≤ w.heap.size + 1 by omega)
        have hfr : RvAt ((((w4.setCell ⟨w.heap.size + 1, 0, none⟩ (.int .i64 (N : Int))).setCell ⟨w.heap.size + 1, 1, none⟩ (.int .u64 (V : Int))).setCell ⟨w.heap.size + 1, 2, none⟩ (.int .i64 (L : Int))).setCell ⟨w.heap.size + 1, 3, none⟩ (.int .i64 (T : Int))) (w.heap.size + 1) (N, V, L, T) := hfr
        generalize ((((w4.setCell ⟨w.heap.size + 1, 0, none⟩ (.int .i64 (N : Int))).setCell ⟨w.heap.size + 1, 1, none⟩ (.int .u64 (V : Int))).setCell ⟨w.heap.size + 1, 2, none⟩ (.int .i64 (L : Int))).setCell ⟨w.heap.size + 1, 3, none⟩ (.int .i64 (T : Int))) = w9 at hfr hfb ⊢
        have hfr : RvAt w9 (w.heap.size + 1) (N, V, L, T) := hfr
        have r0 := hfr.c0
        have r1 := hfr.c1
        have r2 := hfr.c2
        have r3 := hfr.c3
        have HFB := Lib.hid hfb
        simp only [] at r0 r1 r2 r3
        clear hfr hfb d0 d1 d2 d3 f0 f1 f2 f3 c0 c1 c2 c3 k0 k1 k2 k3
        skip
        refine bodyPost_ret (v := .tuple #[.agg #[.int .i64 (N : Int), .int .u64 (V : Int), .int .i64 (L : Int), .int .i64 (T : Int)], .string X, .bool false]) ?_ rfl (HQ0.out HG.out _ HFB.out)
        simp [results, Tryd.results25, go_sem, r0, r1, r2, r3]
      | true =>
        by_cases hpl : q ≤ l
        · have hsl := HSA.out q hpl
          by_cases hpt : b.take q = P
          · have HG := Lib.hid (e4 hpl hpt)
            have hsm := HSB.out q hpl
            rw [hpt] at hsl
            have HQ9 := Lib.hid (HQ1.out A B C D (b.drop q) HG.out)
            clear hpt e1 e2 e3 e4 HG
            obtain ⟨PS, hPS⟩ : ∃ PS, bstr P = PS := ⟨_, rfl⟩
            obtain ⟨RS, hRS⟩ : ∃ PS, bstr (b.drop q) = PS := ⟨_, rfl⟩
            rw [hPS] at hpz hsl ⊢
            rw [hRS] at hsm HQ9
            clear hPS hRS HSA HSB HX HTY HTN HI0 HI1
            go_wp2_with fail
            go_region
            have hfr := rset4_row (s := (A, B, C, D)) HR4.out
            have hfb := rset4_below (.int .i64 (A : Int)) (.int .u64 (B : Int)) (.int .i64 (C : Int)) (.int .i64 (D : Int)) HB4.out (show w.heap.size ≤ w.heap.size + 1 by omega)
            have hfr : RvAt ((((w4.setCell ⟨w.heap.size + 1, 0, none⟩ (.int .i64 (A : Int))).setCell ⟨w.heap.size + 1, 1, none⟩ (.int .u64 (B : Int))).setCell ⟨w.heap.size + 1, 2, none⟩ (.int .i64 (C : Int))).setCell ⟨w.heap.size + 1, 3, none⟩ (.int .i64 (D : Int))) (w.heap.size + 1) (A, B, C, D) := hfr
            generalize ((((w4.setCell ⟨w.heap.size + 1, 0, none⟩ (.int .i64 (A : Int))).setCell ⟨w.heap.size + 1, 1, none⟩ (.int .u64 (B : Int))).setCell ⟨w.heap.size + 1, 2, none⟩ (.int .i64 (C : Int))).setCell ⟨w.heap.size + 1, 3, none⟩ (.int .i64 (D : Int))) = w9 at hfr hfb ⊢
            have hfr : RvAt w9.drew (w.heap.size + 1) (A, B, C, D) := hfr
            have r0 := hfr.c0
            have r1 := hfr.c1
            have r2 := hfr.c2
            have r3 := hfr.c3
            have HFB := Lib.hid hfb
            simp only [] at r0 r1 r2 r3
            clear hfr hfb d0 d1 d2 d3 f0 f1 f2 f3 c0 c1 c2 c3 k0 k1 k2 k3
            go_wp2
            refine bodyPost_ret (v := .tuple #[.agg #[.int .i64 (A : Int), .int .u64 (B : Int), .int .i64 (C : Int), .int .i64 (D : Int)], .string RS, .bool true]) ?_ rfl (HQ9.out _ (HFB.out.trans ⟨rfl, rfl, rfl, Nat.le_refl _, fun _ _ => rfl⟩))
            simp [results, Tryd.results25, go_sem, r0, r1, r2, r3]
          · have HG := Lib.hid (e3 hpt)
            have hne : ((bstr (b.take q)).toList == (bstr P).toList) = false := by
              rw [beq_eq_false_iff_ne]
              intro h
              apply hpt
              apply bstr_inj
              apply ByteArray.ext
              apply Array.ext'
              rw [ByteArray.toList_eq, ByteArray.toList_eq] at h
              exact h
            clear hpt e1 e2 e3 e4
            obtain ⟨PS, hPS⟩ : ∃ PS, bstr P = PS := ⟨_, rfl⟩
            obtain ⟨RS, hRS⟩ : ∃ PS, bstr (b.take q) = PS := ⟨_, rfl⟩
            rw [hPS] at hpz hne ⊢
            rw [hRS] at hsl hne
            clear hPS hRS HSA HSB HX HTY HTN HI0 HI1
            have hne2 : (RS.toList != PS.toList) = true := by rw [bne, hne]; rfl
            go_wp2_with fail
            have hfr := rset4_row (s := (N, V, L, T)) HR4.out
            have hfb := rset4_below (.int .i64 (N : Int)) (.int .u64 (V : Int)) (.int .i64 (L : Int)) (.int .i64 (T : Int)) HB4.out (show w.heap.size ≤ w.heap.size + 1 by omega)
            have hfr : RvAt ((((w4.setCell ⟨w.heap.size + 1, 0, none⟩ (.int .i64 (N : Int))).setCell ⟨w.heap.size + 1, 1, none⟩ (.int .u64 (V : Int))).setCell ⟨w.heap.size + 1, 2, none⟩ (.int .i64 (L : Int))).setCell ⟨w.heap.size + 1, 3, none⟩ (.int .i64 (T : Int))) (w.heap.size + 1) (N, V, L, T) := hfr
            generalize ((((w4.setCell ⟨w.heap.size + 1, 0, none⟩ (.int .i64 (N : Int))).setCell ⟨w.heap.size + 1, 1, none⟩ (.int .u64 (V : Int))).setCell ⟨w.heap.size + 1, 2, none⟩ (.int .i64 (L : Int))).setCell ⟨w.heap.size + 1, 3, none⟩ (.int .i64 (T : Int))) = w9 at hfr hfb ⊢
            have hfr : RvAt w9 (w.heap.size + 1) (N, V, L, T) := hfr
            have r0 := hfr.c0
            have r1 := hfr.c1
            have r2 := hfr.c2
            have r3 := hfr.c3
            have HFB := Lib.hid hfb
            simp only [] at r0 r1 r2 r3
            clear hfr hfb d0 d1 d2 d3 f0 f1 f2 f3 c0 c1 c2 c3 k0 k1 k2 k3
            skip
            refine bodyPost_ret (v := .tuple #[.agg #[.int .i64 (N : Int), .int .u64 (V : Int), .int .i64 (L : Int), .int .i64 (T : Int)], .string X, .bool false]) ?_ rfl (HQ0.out HG.out _ HFB.out)
            simp [results, Tryd.results25, go_sem, r0, r1, r2, r3]
        · have HG := Lib.hid (e2 (by omega))
          clear e1 e2 e3 e4
          obtain ⟨PS, hPS⟩ : ∃ PS, bstr P = PS := ⟨_, rfl⟩
          rw [hPS] at hpz ⊢
          clear hPS HSA HSB HX HTY HTN HI0 HI1
          go_wp2_with fail
          have hfr := rset4_row (s := (N, V, L, T)) HR4.out
          have hfb := rset4_below (.int .i64 (N : Int)) (.int .u64 (V : Int)) (.int .i64 (L : Int)) (.int .i64 (T : Int)) HB4.out (show w.heap.size ≤ w.heap.size + 1 by omega)
          have hfr : RvAt ((((w4.setCell ⟨w.heap.size + 1, 0, none⟩ (.int .i64 (N : Int))).setCell ⟨w.heap.size + 1, 1, none⟩ (.int .u64 (V : Int))).setCell ⟨w.heap.size + 1, 2, none⟩ (.int .i64 (L : Int))).setCell ⟨w.heap.size + 1, 3, none⟩ (.int .i64 (T : Int))) (w.heap.size + 1) (N, V, L, T) := hfr
          generalize ((((w4.setCell ⟨w.heap.size + 1, 0, none⟩ (.int .i64 (N : Int))).setCell ⟨w.heap.size + 1, 1, none⟩ (.int .u64 (V : Int))).setCell ⟨w.heap.size + 1, 2, none⟩ (.int .i64 (L : Int))).setCell ⟨w.heap.size + 1, 3, none⟩ (.int .i64 (T : Int))) = w9 at hfr hfb ⊢
          have hfr : RvAt w9 (w.heap.size + 1) (N, V, L, T) := hfr
          have r0 := hfr.c0
          have r1 := hfr.c1
          have r2 := hfr.c2
          have r3 := hfr.c3
          have HFB := Lib.hid hfb
          simp only [] at r0 r1 r2 r3
          clear hfr hfb d0 d1 d2 d3 f0 f1 f2 f3 c0 c1 c2 c3 k0 k1 k2 k3
          skip
          refine bodyPost_ret (v := .tuple #[.agg #[.int .i64 (N : Int), .int .u64 (V : Int), .int .i64 (L : Int), .int .i64 (T : Int)], .string X, .bool false]) ?_ rfl (HQ0.out HG.out _ HFB.out)
          simp [results, Tryd.results25, go_sem, r0, r1, r2, r3]

end Go.Proofs.YtboomamnenonoaaDoor.VaW
