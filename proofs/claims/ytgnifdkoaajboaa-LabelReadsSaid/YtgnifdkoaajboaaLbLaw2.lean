/-
  LabelLimits, LabelOnly, LabelBack: THE WALKS.
-/
import Derived.Test.YtgnifdkoaajboaaLbLaw
namespace Go.Proofs.Ytgnifdkoaajboaa.FrW
set_option linter.unusedVariables false
open Go.RowKit FrM LabM LbM LabW
theorem longL_le {l : List Lab} {m : Nat} (h : ∀ x ∈ l, x.1.size ≤ m ∧ x.2.size ≤ m) : longL l ≤ m := by
  induction l with
  | nil => exact Nat.zero_le _
  | cons x r ih =>
    have h1 := h x (List.mem_cons_self ..)
    have h2 := ih (fun y hy => h y (List.mem_cons_of_mem _ hy))
    unfold longL
    omega
theorem longL_mem {l : List Lab} : ∀ x ∈ l, x.1.size ≤ longL l ∧ x.2.size ≤ longL l := by
  induction l with
  | nil => intro x hx; cases hx
  | cons y r ih =>
    intro x hx
    unfold longL
    rcases List.mem_cons.1 hx with rfl | hx
    · omega
    · have := ih x hx; omega
theorem chk_long {l : List Lab} (h : checkB l = true) : 0 < longL l ∧ longL l ≤ 48 := by
  have h48 := check_48 h
  refine ⟨?_, longL_le (fun x hx => by have := h48 x hx; simp at this; exact this)⟩
  have hl := check_len h
  cases l with
  | nil => simp at hl
  | cons x r =>
    have h1 := name_48 (check_right h x (List.mem_cons_self ..)).1
    have h2 := (longL_mem (l := x :: r) x (List.mem_cons_self ..)).1
    simp at h1
    omega
theorem limI_lt {a b : Int} (h1 : 1 ≤ a) (h2 : b ≤ 3) (h : a < b) : limI a < limI b := by
  have : (a = 1 ∧ b = 2) ∨ (a = 1 ∧ b = 3) ∨ (a = 2 ∧ b = 3) := by omega
  rcases this with ⟨rfl, rfl⟩ | ⟨rfl, rfl⟩ | ⟨rfl, rfl⟩ <;> decide

set_option maxRecDepth 20000 in
set_option maxHeartbeats 4000000 in
theorem labelLimits_all (a b : Int) (A1 : Option Addr) (n1 c1 : Nat) (l : List Lab) (w : World) (ha : (Lit.int .i64 a).wf = true) (hb : (Lit.int .i64 b).wf = true) (hl : Comes w 2 encL okL A1 n1 c1 l) :
    Calls Try.prog 10 #[.int .i64 a, .int .i64 b, .slice A1 n1 c1] w fun e w' => e = .returned (.bool true) ∧ Below w.heap.size w w' := by
  have KW := Lib.hid (cw_works w)
  have KF1 := Lib.hid (cw_few hl)
  have HB := Lib.hid (Below.refl w.heap.size w)
  cases f1 : fewB l with
  | false =>
    rw [f1] at KF1
    clear f1 ha hb hl
    go_enter Try.func10, Try.ntmps10
    go_wp2_with ((first | with_reducible refine (CW.go KW.out HB.out).mono ?_ | with_reducible refine (CW.go KF1.out HB.out).mono ?_); rintro e w1 ⟨rfl, hb⟩; replace HB := Lib.hid hb; clear hb)
    go_ret
    exact ⟨rfl, HB.out⟩
  | true =>
  rw [f1] at KF1
  have KA := Lib.hid (cw_limit w a)
  have KB := Lib.hid (cw_limit w b)
  have KC := Lib.hid (cw_check hl)
  have KL := Lib.hid (cw_longest hl)
  have KT := Lib.hid (cw_limit w 3)
  rw [show limI 3 = 48 from rfl] at KT
  have HL := Lib.hid (@limI_lt a b)
  have HC := Lib.hid (@chk_long l)
  generalize limI a = x at *
  generalize limI b = y at *
  generalize longL l = z at *
  clear f1 ha hb hl
  cases hc : checkB l with
  | false =>
    rw [hc, show errN false 2 = 2 from rfl] at KC
    clear hc HC
    go_enter Try.func10, Try.ntmps10
    go_wp2_with ((first | with_reducible refine (CW.go KW.out HB.out).mono ?_ | with_reducible refine (CW.go KF1.out HB.out).mono ?_ | with_reducible refine (CW.go KA.out HB.out).mono ?_ | with_reducible refine (CW.go KB.out HB.out).mono ?_ | with_reducible refine (CW.go KC.out HB.out).mono ?_ | with_reducible refine (CW.go KL.out HB.out).mono ?_ | with_reducible refine (CW.go KT.out HB.out).mono ?_); rintro e w1 ⟨rfl, hb⟩; replace HB := Lib.hid hb; clear hb)
    all_goals first | (exfalso; have := HL.out; omega) | (go_ret; exact ⟨rfl, HB.out⟩) | (go_ret; refine ⟨?_, HB.out⟩; show Ending.returned (.bool (decide (b ≤ a) || decide (x < y))) = _; rw [show (decide (b ≤ a) || decide (x < y)) = true by (have hh := HL.out; by_cases hq : b ≤ a <;> simp only [hq, decide_true, decide_false, Bool.true_or, Bool.false_or, decide_eq_true_eq] <;> omega)])
  | true =>
    have hz := HC.out hc
    rw [hc, show errN true 2 = 0 from rfl] at KC
    obtain ⟨z1, z2⟩ := hz
    have z3 : (z : Int) ≤ 48 := by omega
    have z4 : (z : Int) > 0 := by omega
    clear hc HC
    go_enter Try.func10, Try.ntmps10
    go_wp2_with ((first | with_reducible refine (CW.go KW.out HB.out).mono ?_ | with_reducible refine (CW.go KF1.out HB.out).mono ?_ | with_reducible refine (CW.go KA.out HB.out).mono ?_ | with_reducible refine (CW.go KB.out HB.out).mono ?_ | with_reducible refine (CW.go KC.out HB.out).mono ?_ | with_reducible refine (CW.go KL.out HB.out).mono ?_ | with_reducible refine (CW.go KT.out HB.out).mono ?_); rintro e w1 ⟨rfl, hb⟩; replace HB := Lib.hid hb; clear hb)
    all_goals first | (exfalso; have := HL.out; omega) | (go_ret; exact ⟨rfl, HB.out⟩) | (go_ret; refine ⟨?_, HB.out⟩; show Ending.returned (.bool (decide (b ≤ a) || decide (x < y))) = _; rw [show (decide (b ≤ a) || decide (x < y)) = true by (have hh := HL.out; by_cases hq : b ≤ a <;> simp only [hq, decide_true, decide_false, Bool.true_or, Bool.false_or, decide_eq_true_eq] <;> omega)])

/-- What labels that are read come to, for a caller. -/
theorem LabPost.none_of {w w' : World} {e : Ending} (h : LabPost w none e w') : e = .returned (.tuple #[.slice none 0 0, .bool false]) ∧ Below w.heap.size w w' := h
theorem LabPost.some_of {w w' : World} {e : Ending} {l : List Lab} (h : LabPost w (some l) e w') : ∃ A n c, e = .returned (.tuple #[.slice A n c, .bool true]) ∧ Comes w' 2 encL okL A n c l ∧ Below w.heap.size w w' := by
  obtain ⟨A, c, h1, h2, h3⟩ := h
  exact ⟨A, _, c, h1, h2, h3⟩

set_option maxRecDepth 20000 in
set_option maxHeartbeats 4000000 in
theorem labelOnly_all (s : ByteArray) (w : World) (hs0 : s.size ≤ maxLen) :
    Calls Try.prog 7 #[.string s] w fun e w' => e = .returned (.bool true) ∧ Below w.heap.size w w' := by
  have KW := Lib.hid (cw_works w)
  have HB := Lib.hid (Below.refl w.heap.size w)
  obtain ⟨l, rfl⟩ : ∃ l, s = bs l := ⟨s.data.toList, rfl⟩
  have hz := bs_size l
  by_cases hs : 300 < l.length
  · obtain ⟨X, hX⟩ : ∃ X, bs l = X := ⟨_, rfl⟩
    rw [hX] at hz ⊢
    have hs2 : ((l.length : Nat) : Int) > 300 := by omega
    clear hX hs0
    go_enter Try.func7, Try.ntmps7
    go_wp2_with ((first | with_reducible refine (CW.go KW.out HB.out).mono ?_); rintro e w1 ⟨rfl, hb⟩; replace HB := Lib.hid hb; clear hb)
    go_ret
    exact ⟨rfl, HB.out⟩
  have hs2 : ¬ ((l.length : Nat) : Int) > 300 := by omega
  have O1 := fun W => of_any l W (by omega)
  have O2 := fun W => read_any l W (by omega)
  have HC1 : ∀ a, ofL l = some a → checkB a = true ∧ keyL a = l := fun a h => (ofL_iff l a).1 h
  have HC2 : ∀ a, readA l = some a → checkB a = true ∧ showL a = l := fun a h => (readA_iff l a).1 h
  obtain ⟨X, hX⟩ : ∃ X, bs l = X := ⟨_, rfl⟩
  rw [hX] at hz O1 O2 ⊢
  have HX := Lib.hid hX
  obtain ⟨n, hn⟩ : ∃ n, l.length = n := ⟨_, rfl⟩
  rw [hn] at hz hs2
  clear hX hs0 hn hs
  cases e1 : ofL l with
  | none =>
    rw [e1] at O1
    have KO : Hid (∀ W, Below w.heap.size w W → Calls Try.prog 25 #[.string X] W fun e w' => e = .returned (.tuple #[.slice none 0 0, .bool false]) ∧ Below w.heap.size w w') := Lib.hid (fun W hb => (O1 W).mono fun e w' h => ⟨h.none_of.1, hb.trans (h.none_of.2.mono hb.size)⟩)
    cases e2 : readA l with
    | none =>
    rw [e2] at O2
    have KR : Hid (∀ W, Below w.heap.size w W → Calls Try.prog 27 #[.string X] W fun e w' => e = .returned (.tuple #[.slice none 0 0, .bool false]) ∧ Below w.heap.size w w' ∧ Below W.heap.size W w') := Lib.hid (fun W hb => (O2 W).mono fun e w' h => ⟨h.none_of.1, hb.trans (h.none_of.2.mono hb.size), h.none_of.2⟩)
    clear O1 O2 HC1 HC2
    clear e1 e2
    have hself : (X.toList == X.toList) = true := beq_self_eq_true _
    go_enter Try.func7, Try.ntmps7
    go_wp2_with ((first | with_reducible refine (CW.go KW.out HB.out).mono ?_); rintro e w1 ⟨rfl, hb⟩; replace HB := Lib.hid hb; clear hb)
    refine (KO.out _ HB.out).mono ?_
    rintro e w2 ⟨rfl, hb2⟩
    have HA := Lib.hid hb2
    clear hb2
    go_wp2_with fail
    refine (KR.out _ HA.out).mono ?_
    rintro e w3 ⟨rfl, hb2, hb3⟩
    have HA2 := Lib.hid hb2
    have HZ := Lib.hid HA2.out
    replace HB := Lib.hid (Below.refl w3.heap.size w3)
    clear hb2 hb3
    go_wp2_with fail
    go_ret
    exact ⟨rfl, HZ.out.trans (HB.out.mono HZ.out.size)⟩
    | some b =>
    rw [e2] at O2
    have KR : Hid (∀ W, Below w.heap.size w W → Calls Try.prog 27 #[.string X] W fun e w' => ∃ A n c, e = .returned (.tuple #[.slice A n c, .bool true]) ∧ Comes w' 2 encL okL A n c b ∧ Below w.heap.size w w' ∧ Below W.heap.size W w') := Lib.hid (fun W hb => (O2 W).mono fun e w' h => by obtain ⟨A, n, c, h1, h2, h3⟩ := h.some_of; exact ⟨A, n, c, h1, h2, hb.trans (h3.mono hb.size), h3⟩)
    replace HC2 := Lib.hid (HC2 b e2)
    clear O1 O2 HC1
    clear e1 e2
    have hself : (X.toList == X.toList) = true := beq_self_eq_true _
    go_enter Try.func7, Try.ntmps7
    go_wp2_with ((first | with_reducible refine (CW.go KW.out HB.out).mono ?_); rintro e w1 ⟨rfl, hb⟩; replace HB := Lib.hid hb; clear hb)
    refine (KO.out _ HB.out).mono ?_
    rintro e w2 ⟨rfl, hb2⟩
    have HA := Lib.hid hb2
    clear hb2
    go_wp2_with fail
    refine (KR.out _ HA.out).mono ?_
    rintro e w3 ⟨A2, n2, c2, rfl, hcm, hb2, hb3⟩
    have HA2 := Lib.hid (And.intro hcm hb2)
    have K3 := Lib.hid (cw_show HA2.out.1 (chk_few HC2.out.1))
    have K4 := Lib.hid (cw_check HA2.out.1)
    rw [HC2.out.2, HX.out] at K3
    rw [HC2.out.1, show errN true 2 = 0 from rfl] at K4
    have HZ := Lib.hid HA2.out.2
    replace HB := Lib.hid (Below.refl w3.heap.size w3)
    clear hb2 hb3 hcm
    go_wp2_with ((first | with_reducible refine (CW.go K3.out HB.out).mono ?_ | with_reducible refine (CW.go K4.out HB.out).mono ?_); rintro e w1 ⟨rfl, hb⟩; replace HB := Lib.hid hb; clear hb)
    go_ret
    exact ⟨rfl, HZ.out.trans (HB.out.mono HZ.out.size)⟩
  | some a =>
    rw [e1] at O1
    have KO : Hid (∀ W, Below w.heap.size w W → Calls Try.prog 25 #[.string X] W fun e w' => ∃ A n c, e = .returned (.tuple #[.slice A n c, .bool true]) ∧ Comes w' 2 encL okL A n c a ∧ Below w.heap.size w w') := Lib.hid (fun W hb => (O1 W).mono fun e w' h => by obtain ⟨A, n, c, h1, h2, h3⟩ := h.some_of; exact ⟨A, n, c, h1, h2, hb.trans (h3.mono hb.size)⟩)
    replace HC1 := Lib.hid (HC1 a e1)
    cases e2 : readA l with
    | none =>
    rw [e2] at O2
    have KR : Hid (∀ W, Below w.heap.size w W → Calls Try.prog 27 #[.string X] W fun e w' => e = .returned (.tuple #[.slice none 0 0, .bool false]) ∧ Below w.heap.size w w' ∧ Below W.heap.size W w') := Lib.hid (fun W hb => (O2 W).mono fun e w' h => ⟨h.none_of.1, hb.trans (h.none_of.2.mono hb.size), h.none_of.2⟩)
    clear O1 O2 HC2
    clear e1 e2
    have hself : (X.toList == X.toList) = true := beq_self_eq_true _
    go_enter Try.func7, Try.ntmps7
    go_wp2_with ((first | with_reducible refine (CW.go KW.out HB.out).mono ?_); rintro e w1 ⟨rfl, hb⟩; replace HB := Lib.hid hb; clear hb)
    refine (KO.out _ HB.out).mono ?_
    rintro e w2 ⟨A, n, c, rfl, hcm, hb2⟩
    have HA := Lib.hid (And.intro hcm hb2)
    clear hcm hb2
    go_wp2_with fail
    refine (KR.out _ HA.out.2).mono ?_
    rintro e w3 ⟨rfl, hb2, hb3⟩
    have HA2 := Lib.hid hb2
    have HA1 := Lib.hid (HA.out.1.later hb3)
    have K1 := Lib.hid (cw_key HA1.out (chk_few HC1.out.1))
    have K2 := Lib.hid (cw_check HA1.out)
    rw [HC1.out.2, HX.out] at K1
    rw [HC1.out.1, show errN true 2 = 0 from rfl] at K2
    have HZ := Lib.hid HA2.out
    replace HB := Lib.hid (Below.refl w3.heap.size w3)
    clear hb2 hb3
    go_wp2_with ((first | with_reducible refine (CW.go K1.out HB.out).mono ?_ | with_reducible refine (CW.go K2.out HB.out).mono ?_); rintro e w1 ⟨rfl, hb⟩; replace HB := Lib.hid hb; clear hb)
    go_ret
    exact ⟨rfl, HZ.out.trans (HB.out.mono HZ.out.size)⟩
    | some b =>
    rw [e2] at O2
    have KR : Hid (∀ W, Below w.heap.size w W → Calls Try.prog 27 #[.string X] W fun e w' => ∃ A n c, e = .returned (.tuple #[.slice A n c, .bool true]) ∧ Comes w' 2 encL okL A n c b ∧ Below w.heap.size w w' ∧ Below W.heap.size W w') := Lib.hid (fun W hb => (O2 W).mono fun e w' h => by obtain ⟨A, n, c, h1, h2, h3⟩ := h.some_of; exact ⟨A, n, c, h1, h2, hb.trans (h3.mono hb.size), h3⟩)
    replace HC2 := Lib.hid (HC2 b e2)
    clear O1 O2
    clear e1 e2
    have hself : (X.toList == X.toList) = true := beq_self_eq_true _
    go_enter Try.func7, Try.ntmps7
    go_wp2_with ((first | with_reducible refine (CW.go KW.out HB.out).mono ?_); rintro e w1 ⟨rfl, hb⟩; replace HB := Lib.hid hb; clear hb)
    refine (KO.out _ HB.out).mono ?_
    rintro e w2 ⟨A, n, c, rfl, hcm, hb2⟩
    have HA := Lib.hid (And.intro hcm hb2)
    clear hcm hb2
    go_wp2_with fail
    refine (KR.out _ HA.out.2).mono ?_
    rintro e w3 ⟨A2, n2, c2, rfl, hcm, hb2, hb3⟩
    have HA2 := Lib.hid (And.intro hcm hb2)
    have HA1 := Lib.hid (HA.out.1.later hb3)
    have K1 := Lib.hid (cw_key HA1.out (chk_few HC1.out.1))
    have K2 := Lib.hid (cw_check HA1.out)
    rw [HC1.out.2, HX.out] at K1
    rw [HC1.out.1, show errN true 2 = 0 from rfl] at K2
    have K3 := Lib.hid (cw_show HA2.out.1 (chk_few HC2.out.1))
    have K4 := Lib.hid (cw_check HA2.out.1)
    rw [HC2.out.2, HX.out] at K3
    rw [HC2.out.1, show errN true 2 = 0 from rfl] at K4
    have HZ := Lib.hid HA2.out.2
    replace HB := Lib.hid (Below.refl w3.heap.size w3)
    clear hb2 hb3 hcm
    go_wp2_with ((first | with_reducible refine (CW.go K1.out HB.out).mono ?_ | with_reducible refine (CW.go K2.out HB.out).mono ?_ | with_reducible refine (CW.go K3.out HB.out).mono ?_ | with_reducible refine (CW.go K4.out HB.out).mono ?_); rintro e w1 ⟨rfl, hb⟩; replace HB := Lib.hid hb; clear hb)
    go_ret
    exact ⟨rfl, HZ.out.trans (HB.out.mono HZ.out.size)⟩

end Go.Proofs.Ytgnifdkoaajboaa.FrW
