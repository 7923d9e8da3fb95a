/-
  LabelPairs: THE WALK.
-/
import Derived.Test.YtgnifdkoaajboaaLbLaw3
import Derived.Test.YtgnifdkoaajboaaLbSame
namespace Go.Proofs.Ytgnifdkoaajboaa.FrW
set_option linter.unusedVariables false
open Go.RowKit FrM LabM LbM LabW
theorem key_short {l : List Lab} (hn : l.length ≤ 10) (h : shortL l) : (keyL l).length ≤ 6400 := by
  have : ∀ l : List Lab, shortL l → (keyL l).length ≤ 640 * l.length := by
    intro l
    induction l with
    | nil => intro _; simp [keyL]
    | cons x r ih =>
      intro h
      have hx := h x (List.mem_cons_self ..)
      have hr := ih (fun y hy => h y (List.mem_cons_of_mem _ hy))
      have s1 := text_le x.1.data.toList
      have s2 := text_le x.2.data.toList
      have e1 : x.1.data.toList.length = x.1.size := by simp
      have e2 : x.2.data.toList.length = x.2.size := by simp
      simp only [keyL, List.length_append, List.length_cons] at hr ⊢
      omega
  have := this l h
  omega
section
variable {w : World} {A A2 : Option Addr} {n c n2 c2 : Nat} {l l2 : List Lab}
theorem cw_rsame (h : Comes w 2 encL okL A n c l) (h2 : Comes w 2 encL okL A2 n2 c2 l2) : CW w 29 #[.slice A n c, .slice A2 n2 c2] (.bool (decide (l = l2))) := CW.mk fun W hb => rsame_any A n c l A2 n2 c2 l2 W (h.later hb) (h2.later hb)
theorem cw_rlongest (h : Comes w 2 encL okL A n c l) : CW w 18 #[.slice A n c] (.int .i64 (longL l : Int)) := CW.mk fun W hb => rlongest_any A n c l W (h.later hb)
theorem cw_rkey (h : Comes w 2 encL okL A n c l) (hf : fewB l = true) : CW w 20 #[.slice A n c] (.string (bs (keyL l))) := CW.mk fun W hb => rkey_any A n c l W (h.later hb) (few_n h hf).1 (few_n h hf).2
theorem cw_rahead (w : World) (a b : List UInt8) (ha : a.length ≤ 1099511627776) (hb : b.length ≤ 1099511627776) : CW w 30 #[.string (bs a), .string (bs b)] (.bool (ltB a b)) :=
  CW.mk fun W hb' => (rahead_any (bs a) (bs b) W (by rw [bs_size]; exact ha) (by rw [bs_size]; exact hb)).mono fun e w' h => by
    obtain ⟨h1, m, h2⟩ := h
    exact ⟨h1, by rw [h2]; exact ⟨rfl, rfl, rfl, Nat.le_refl _, fun _ _ => rfl⟩⟩
theorem few_key (h : Comes w 2 encL okL A n c l) (hf : fewB l = true) : (keyL l).length ≤ 1099511627776 := by
  have := key_short ((fewB_iff l).1 hf).1 ((fewB_iff l).1 hf).2
  omega
end

set_option maxRecDepth 20000 in
set_option maxHeartbeats 4000000 in
theorem labelPairs_all (A1 : Option Addr) (n1 c1 : Nat) (a : List Lab) (A2 : Option Addr) (n2 c2 : Nat) (b : List Lab) (w : World) (ha : Comes w 2 encL okL A1 n1 c1 a) (hb : Comes w 2 encL okL A2 n2 c2 b) :
    Calls Try.prog 5 #[.slice A1 n1 c1, .slice A2 n2 c2] w fun e w' => e = .returned (.bool true) ∧ Below w.heap.size w w' := by
  have KW := Lib.hid (cw_works w)
  have KF1 := Lib.hid (cw_few ha)
  have KF2 := Lib.hid (cw_few hb)
  have HB := Lib.hid (Below.refl w.heap.size w)
  cases f1 : fewB a with
  | false =>
    rw [f1] at KF1
    clear f1 ha hb KF2
    go_enter Try.func5, Try.ntmps5
    go_wp2_with ((first | with_reducible refine (CW.go KW.out HB.out).mono ?_ | with_reducible refine (CW.go KF1.out HB.out).mono ?_); rintro e w1 ⟨rfl, hb⟩; replace HB := Lib.hid hb; clear hb)
    go_ret
    exact ⟨rfl, HB.out⟩
  | true =>
  cases f2 : fewB b with
  | false =>
    rw [f1] at KF1
    rw [f2] at KF2
    clear f1 f2 ha hb
    go_enter Try.func5, Try.ntmps5
    go_wp2_with ((first | with_reducible refine (CW.go KW.out HB.out).mono ?_ | with_reducible refine (CW.go KF1.out HB.out).mono ?_ | with_reducible refine (CW.go KF2.out HB.out).mono ?_); rintro e w1 ⟨rfl, hb⟩; replace HB := Lib.hid hb; clear hb)
    go_ret
    exact ⟨rfl, HB.out⟩
  | true =>
  rw [f1] at KF1
  rw [f2] at KF2
  have K1 := Lib.hid (cw_rkey ha f1)
  have K2 := Lib.hid (cw_rkey hb f2)
  have K3 := Lib.hid (cw_rahead w (keyL a) (keyL b) (few_key ha f1) (few_key hb f2))
  have K4 := Lib.hid (cw_rsame ha hb)
  have K5 := Lib.hid (cw_less ha f1 hb f2)
  have K6 := Lib.hid (cw_same ha f1 hb f2)
  generalize bs (keyL a) = X at *
  generalize bs (keyL b) = Y at *
  generalize ltB (keyL a) (keyL b) = p at *
  generalize decide (a = b) = q at *
  clear f1 f2 ha hb
  cases p <;> cases q
  all_goals (
    go_enter Try.func5, Try.ntmps5
    go_wp2_with ((first | with_reducible refine (CW.go KW.out HB.out).mono ?_ | with_reducible refine (CW.go KF1.out HB.out).mono ?_ | with_reducible refine (CW.go KF2.out HB.out).mono ?_ | with_reducible refine (CW.go K1.out HB.out).mono ?_ | with_reducible refine (CW.go K2.out HB.out).mono ?_ | with_reducible refine (CW.go K3.out HB.out).mono ?_ | with_reducible refine (CW.go K4.out HB.out).mono ?_ | with_reducible refine (CW.go K5.out HB.out).mono ?_ | with_reducible refine (CW.go K6.out HB.out).mono ?_); rintro e w1 ⟨rfl, hb⟩; replace HB := Lib.hid hb; clear hb)
    go_ret
    exact ⟨rfl, HB.out⟩)

end Go.Proofs.Ytgnifdkoaajboaa.FrW
