/-
  LabelBack: THE WALK.
-/
import Derived.Test.YtgnifdkoaajboaaLbLaw2
namespace Go.Proofs.Ytgnifdkoaajboaa.FrW
set_option linter.unusedVariables false
open Go.RowKit FrM LabM LbM LabW
theorem key_same {a b : List Lab} (ha : checkB a = true) (hb : checkB b = true) : decide (keyL a = keyL b) = decide (a = b) := by
  by_cases h : a = b
  · subst h; simp
  · rw [decide_eq_false h, decide_eq_false]
    intro e
    have h1 := (ofL_iff (keyL a) a).2 ⟨ha, rfl⟩
    have h2 := (ofL_iff (keyL a) b).2 ⟨hb, e.symm⟩
    rw [h1] at h2
    exact h (Option.some.inj h2)
theorem show_same {a b : List Lab} (ha : checkB a = true) (hb : checkB b = true) : decide (showL a = showL b) = decide (a = b) := by
  by_cases h : a = b
  · subst h; simp
  · rw [decide_eq_false h, decide_eq_false]
    intro e
    have h1 := (readA_iff (showL a) a).2 ⟨ha, rfl⟩
    have h2 := (readA_iff (showL a) b).2 ⟨hb, e.symm⟩
    rw [h1] at h2
    exact h (Option.some.inj h2)
theorem check_dif {a b : List Lab} (ha : checkB a = true) (hb : checkB b = true) (h : a ≠ b) : ltB (keyL b) (keyL a) = !ltB (keyL a) (keyL b) := by
  have hk := key_same ha hb
  rw [decide_eq_false h] at hk
  have hk := of_decide_eq_false hk
  rw [← ltB_tri, beq_eq_false_iff_ne.2 hk]
  simp
/-- What check_dif needs of how long they are. -/
theorem key_300 {l : List Lab} (h : checkB l = true) : (keyL l).length ≤ 1099511627776 ∧ (showL l).length ≤ 1099511627776 := by
  have h1 := check_48 h
  have h2 := check_len h
  constructor
  · have : ∀ l : List Lab, small48 l → (keyL l).length ≤ 200 * l.length := by
      intro l
      induction l with
      | nil => intro _; simp [keyL]
      | cons x r ih =>
        intro h
        have hx := h x (List.mem_cons_self ..)
        have hr := ih (fun y hy => h y (List.mem_cons_of_mem _ hy))
        have s1 := sm_len 9 x.1.data.toList.length
        have s2 := sm_len 9 x.2.data.toList.length
        simp only [keyL, text, small, List.length_append, List.length_cons] at hr ⊢
        omega
    have := this l h1
    omega
  · have he : ∀ v : Txt, (esc v).length ≤ 2 * v.length := by
      intro v
      induction v with
      | nil => simp [esc]
      | cons c r ih =>
        unfold esc at ih ⊢
        rw [List.flatMap_cons, List.length_append, List.length_cons]
        have : (if c = 34 ∨ c = 92 then [92, c] else [c]).length ≤ 2 := by split <;> simp
        omega
    have : ∀ (l : List Lab) (i : Nat), small48 l → (shG i l).length ≤ 200 * l.length := by
      intro l
      induction l with
      | nil => intro i _; simp [shG]
      | cons x r ih =>
        intro i h
        have hx := h x (List.mem_cons_self ..)
        have hr := ih (i + 1) (fun y hy => h y (List.mem_cons_of_mem _ hy))
        have he2 := he x.2.data.toList
        simp only [shG, one, List.length_append, List.length_cons, List.length_nil] at hr ⊢
        have : (if 0 < i then [(44 : UInt8)] else []).length ≤ 1 := by split <;> simp
        omega
    have := this l 0 h1
    unfold showL
    simp only [List.length_append, List.length_cons, List.length_nil]
    omega

set_option maxRecDepth 20000 in
set_option maxHeartbeats 4000000 in
theorem labelBack_all (A1 : Option Addr) (n1 c1 : Nat) (a : List Lab) (A2 : Option Addr) (n2 c2 : Nat) (b : List Lab) (w : World) (ha : Comes w 2 encL okL A1 n1 c1 a) (hb : Comes w 2 encL okL A2 n2 c2 b) :
    Calls Try.prog 6 #[.slice A1 n1 c1, .slice A2 n2 c2] w fun e w' => e = .returned (.bool true) ∧ Below w.heap.size w w' := by
  have KW := Lib.hid (cw_works w)
  have KF1 := Lib.hid (cw_few ha)
  have KF2 := Lib.hid (cw_few hb)
  have KC := Lib.hid (cw_check ha)
  have HB := Lib.hid (Below.refl w.heap.size w)
  cases f1 : fewB a with
  | false =>
    rw [f1] at KF1
    clear f1 ha hb KF2 KC
    go_enter Try.func6, Try.ntmps6
    go_wp2_with ((first | with_reducible refine (CW.go KW.out HB.out).mono ?_ | with_reducible refine (CW.go KF1.out HB.out).mono ?_); rintro e w1 ⟨rfl, hb⟩; replace HB := Lib.hid hb; clear hb)
    go_ret
    exact ⟨rfl, HB.out⟩
  | true =>
  cases f2 : fewB b with
  | false =>
    rw [f1] at KF1
    rw [f2] at KF2
    clear f1 f2 ha hb KC
    go_enter Try.func6, Try.ntmps6
    go_wp2_with ((first | with_reducible refine (CW.go KW.out HB.out).mono ?_ | with_reducible refine (CW.go KF1.out HB.out).mono ?_ | with_reducible refine (CW.go KF2.out HB.out).mono ?_); rintro e w1 ⟨rfl, hb⟩; replace HB := Lib.hid hb; clear hb)
    go_ret
    exact ⟨rfl, HB.out⟩
  | true =>
  cases c1x : checkB a with
  | false =>
    rw [f1] at KF1
    rw [f2] at KF2
    rw [c1x, show errN false 2 = 2 from rfl] at KC
    clear f1 f2 c1x ha hb
    go_enter Try.func6, Try.ntmps6
    go_wp2_with ((first | with_reducible refine (CW.go KW.out HB.out).mono ?_ | with_reducible refine (CW.go KF1.out HB.out).mono ?_ | with_reducible refine (CW.go KF2.out HB.out).mono ?_ | with_reducible refine (CW.go KC.out HB.out).mono ?_); rintro e w1 ⟨rfl, hb⟩; replace HB := Lib.hid hb; clear hb)
    go_ret
    exact ⟨rfl, HB.out⟩
  | true =>
  rw [f1] at KF1
  rw [f2] at KF2
  rw [c1x, show errN true 2 = 0 from rfl] at KC
  have KK := Lib.hid (cw_key ha f1)
  have O1 := fun W => of_any (keyL a) W (key_300 c1x).1
  have O2 := fun W => read_any (showL a) W (key_300 c1x).2
  rw [(ofL_iff (keyL a) a).2 ⟨c1x, rfl⟩] at O1
  rw [(readA_iff (showL a) a).2 ⟨c1x, rfl⟩] at O2
  obtain ⟨X, hX⟩ : ∃ X, bs (keyL a) = X := ⟨_, rfl⟩
  obtain ⟨U, hU⟩ : ∃ U, bs (showL a) = U := ⟨_, rfl⟩
  rw [hX] at KK O1
  rw [hU] at O2
  have HX := Lib.hid hX
  have HU := Lib.hid hU
  have KO : Hid (∀ W, Below w.heap.size w W → Calls Try.prog 25 #[.string X] W fun e w' => ∃ A n c, e = .returned (.tuple #[.slice A n c, .bool true]) ∧ Comes w' 2 encL okL A n c a ∧ Below w.heap.size w w') := Lib.hid (fun W hb => (O1 W).mono fun e w' h => by obtain ⟨A, n, c, h1, h2, h3⟩ := h.some_of; exact ⟨A, n, c, h1, h2, hb.trans (h3.mono hb.size)⟩)
  have KR : Hid (∀ W, Calls Try.prog 27 #[.string U] W fun e w' => ∃ A n c, e = .returned (.tuple #[.slice A n c, .bool true]) ∧ Comes w' 2 encL okL A n c a ∧ Below W.heap.size W w') := Lib.hid (fun W => (O2 W).mono fun e w' h => h.some_of)
  have FC := Lib.hid (And.intro c1x (And.intro f1 (And.intro f2 (And.intro ha hb))))
  clear O1 O2 hX hU c1x f1 f2 ha hb
  go_enter Try.func6, Try.ntmps6
  go_wp2_with ((first | with_reducible refine (CW.go KW.out HB.out).mono ?_ | with_reducible refine (CW.go KF1.out HB.out).mono ?_ | with_reducible refine (CW.go KF2.out HB.out).mono ?_ | with_reducible refine (CW.go KC.out HB.out).mono ?_ | with_reducible refine (CW.go KK.out HB.out).mono ?_); rintro e w1 ⟨rfl, hb⟩; replace HB := Lib.hid hb; clear hb)
  refine (KO.out _ HB.out).mono ?_
  rintro e w2 ⟨Ax, nx, cx, rfl, hcx, hbx⟩
  have HCX := Lib.hid hcx
  have H02 := Lib.hid hbx
  have K1 := Lib.hid (cw_show (FC.out.2.2.2.1.later hbx) FC.out.2.1)
  rw [HU.out] at K1
  replace HB := Lib.hid (Below.refl w2.heap.size w2)
  clear hcx hbx KO KW KF1 KF2 KC KK
  go_wp2_with ((first | with_reducible refine (CW.go K1.out HB.out).mono ?_); rintro e w1 ⟨rfl, hb⟩; replace HB := Lib.hid hb; clear hb)
  refine (KR.out _).mono ?_
  rintro e w4 ⟨Ay, ny, cy, rfl, hcy, hby⟩
  have hb24 := HB.out.trans (hby.mono HB.out.size)
  have h04 := H02.out.trans (hb24.mono H02.out.size)
  have hxx := HCX.out.later hb24
  have haa := FC.out.2.2.2.1.later h04
  have hbb := FC.out.2.2.2.2.later h04
  have L1 := cw_same hxx FC.out.2.1 haa FC.out.2.1
  have L2 := cw_same hcy FC.out.2.1 haa FC.out.2.1
  rw [decide_eq_true (rfl : a = a)] at L1 L2
  have K2 := Lib.hid L1
  have K3 := Lib.hid L2
  have K4 := Lib.hid (cw_check hbb)
  have K5 := Lib.hid (cw_same haa FC.out.2.1 hbb FC.out.2.2.1)
  have K6 := Lib.hid (cw_key haa FC.out.2.1)
  have K7 := Lib.hid (cw_key hbb FC.out.2.2.1)
  have K8 := Lib.hid (cw_show haa FC.out.2.1)
  have K9 := Lib.hid (cw_show hbb FC.out.2.2.1)
  have KA := Lib.hid (cw_less haa FC.out.2.1 hbb FC.out.2.2.1)
  have KB := Lib.hid (cw_less hbb FC.out.2.2.1 haa FC.out.2.1)
  have HZ := Lib.hid h04
  replace HB := Lib.hid (Below.refl w4.heap.size w4)
  have hk := bs_beq (keyL a) (keyL b)
  have hs := bs_beq (showL a) (showL b)
  have hd := @check_dif a b FC.out.1
  have hk2 := @key_same a b FC.out.1
  have hs2 := @show_same a b FC.out.1
  rw [HX.out] at K6 hk
  rw [HU.out] at K8 hs
  obtain ⟨Y, hY⟩ : ∃ Y, bs (keyL b) = Y := ⟨_, rfl⟩
  obtain ⟨V, hV⟩ : ∃ V, bs (showL b) = V := ⟨_, rfl⟩
  rw [hY] at K7 hk
  rw [hV] at K9 hs
  clear hcy hby hb24 h04 hxx haa hbb L1 L2 hY hV HCX H02 K1 KR HX HU
  cases c2x : checkB b with
  | false =>
    rw [c2x, show errN false 2 = 2 from rfl] at K4
    clear c2x hk hs hd hk2 hs2 K5 K6 K7 K8 K9 KA KB FC
    go_wp2_with ((first | with_reducible refine (CW.go K2.out HB.out).mono ?_ | with_reducible refine (CW.go K3.out HB.out).mono ?_ | with_reducible refine (CW.go K4.out HB.out).mono ?_); rintro e w1 ⟨rfl, hb⟩; replace HB := Lib.hid hb; clear hb)
    go_ret
    exact ⟨rfl, HZ.out.trans (HB.out.mono HZ.out.size)⟩
  | true =>
  rw [c2x, show errN true 2 = 0 from rfl] at K4
  replace hd := hd c2x
  rw [hk2 c2x] at hk
  rw [hs2 c2x] at hs
  clear c2x hk2 hs2 FC
  by_cases he : a = b
  · rw [decide_eq_true he] at K5 hk hs
    clear he hd KA KB
    go_wp2_with ((first | with_reducible refine (CW.go K2.out HB.out).mono ?_ | with_reducible refine (CW.go K3.out HB.out).mono ?_ | with_reducible refine (CW.go K4.out HB.out).mono ?_ | with_reducible refine (CW.go K5.out HB.out).mono ?_ | with_reducible refine (CW.go K6.out HB.out).mono ?_ | with_reducible refine (CW.go K7.out HB.out).mono ?_ | with_reducible refine (CW.go K8.out HB.out).mono ?_ | with_reducible refine (CW.go K9.out HB.out).mono ?_); rintro e w1 ⟨rfl, hb⟩; replace HB := Lib.hid hb; clear hb)
    go_ret
    exact ⟨rfl, HZ.out.trans (HB.out.mono HZ.out.size)⟩
  · rw [decide_eq_false he] at K5 hk hs
    rw [hd he] at KB
    clear he hd
    generalize ltB (keyL a) (keyL b) = p at *
    cases p
    all_goals (
      simp only [Bool.not_true, Bool.not_false] at KB
      go_wp2_with ((first | with_reducible refine (CW.go K2.out HB.out).mono ?_ | with_reducible refine (CW.go K3.out HB.out).mono ?_ | with_reducible refine (CW.go K4.out HB.out).mono ?_ | with_reducible refine (CW.go K5.out HB.out).mono ?_ | with_reducible refine (CW.go K6.out HB.out).mono ?_ | with_reducible refine (CW.go K7.out HB.out).mono ?_ | with_reducible refine (CW.go K8.out HB.out).mono ?_ | with_reducible refine (CW.go K9.out HB.out).mono ?_ | with_reducible refine (CW.go KA.out HB.out).mono ?_ | with_reducible refine (CW.go KB.out HB.out).mono ?_); rintro e w1 ⟨rfl, hb⟩; replace HB := Lib.hid hb; clear hb)
      go_ret
      exact ⟨rfl, HZ.out.trans (HB.out.mono HZ.out.size)⟩)

end Go.Proofs.Ytgnifdkoaajboaa.FrW
