/-
  WHAT THE LAWS CALL, FROM ONE WORLD ON; LabelOrder, LabelLimits: THE WALKS.
-/
import Derived.Test.YtgnifdkoaajboaaLbWorks
import Derived.Test.YtgnifdkoaajboaaLbFew
namespace Go.Proofs.Ytgnifdkoaajboaa.FrW
set_option linter.unusedVariables false
open Go.RowKit FrM LabM LbM LabW
/-- Whenever it is called behind the world w, that is what it hands back. -/
def CW (w : World) (f : FuncId) (args : Array Value) (v : Value) : Prop := ∀ W, Below w.heap.size w W → Calls Try.prog f args W fun e w' => e = .returned v ∧ Below w.heap.size w w'
theorem CW.mk {w : World} {f : FuncId} {args : Array Value} {v : Value} (h : ∀ W, Below w.heap.size w W → Calls Try.prog f args W fun e w' => e = .returned v ∧ Below W.heap.size W w') : CW w f args v :=
  fun W hb => (h W hb).mono fun e w' h => ⟨h.1, hb.trans (h.2.mono hb.size)⟩
theorem CW.go {w W : World} {f : FuncId} {args : Array Value} {v : Value} (h : CW w f args v) (hb : Below w.heap.size w W) : Calls Try.prog f args W fun e w' => e = .returned v ∧ Below w.heap.size w w' := h W hb
theorem CW.of {w : World} {f : FuncId} {args : Array Value} {v u : Value} (h : CW w f args v) (e : v = u) : CW w f args u := e ▸ h
section
variable {w : World} {A A2 : Option Addr} {n c n2 c2 : Nat} {l l2 : List Lab}
theorem cw_works (w : World) : CW w 11 #[] (.bool true) := CW.mk fun W _ => works_any W
theorem cw_few (h : Comes w 2 encL okL A n c l) : CW w 12 #[.slice A n c] (.bool (fewB l)) := CW.mk fun W hb => few_any A n c l W (h.later hb)
theorem few_n (h : Comes w 2 encL okL A n c l) (hf : fewB l = true) : n ≤ 10 ∧ shortL l := by
  have := (fewB_iff l).1 hf
  exact ⟨by rw [← h.len]; exact this.1, this.2⟩
theorem cw_less (h : Comes w 2 encL okL A n c l) (hf : fewB l = true) (h2 : Comes w 2 encL okL A2 n2 c2 l2) (hf2 : fewB l2 = true) : CW w 31 #[.slice A n c, .slice A2 n2 c2] (.bool (ltB (keyL l) (keyL l2))) :=
  CW.mk fun W hb => less_any A n c l A2 n2 c2 l2 W (h.later hb) (h2.later hb) (few_n h hf).1 (few_n h2 hf2).1 (few_n h hf).2 (few_n h2 hf2).2
theorem cw_same (h : Comes w 2 encL okL A n c l) (hf : fewB l = true) (h2 : Comes w 2 encL okL A2 n2 c2 l2) (hf2 : fewB l2 = true) : CW w 32 #[.slice A n c, .slice A2 n2 c2] (.bool (decide (l = l2))) :=
  CW.mk fun W hb => same_any A n c l A2 n2 c2 l2 W (h.later hb) (h2.later hb) (few_n h hf).1 (few_n h2 hf2).1 (few_n h hf).2 (few_n h2 hf2).2
theorem cw_check (h : Comes w 2 encL okL A n c l) : CW w 14 #[.slice A n c] (.int .i64 (errN (checkB l) 2)) := CW.mk fun W hb => check_any A n c l W (h.later hb)
theorem cw_key (h : Comes w 2 encL okL A n c l) (hf : fewB l = true) : CW w 19 #[.slice A n c] (.string (bs (keyL l))) := CW.mk fun W hb => key_any A n c l W (h.later hb) (few_n h hf).1 (few_n h hf).2
theorem cw_show (h : Comes w 2 encL okL A n c l) (hf : fewB l = true) : CW w 21 #[.slice A n c] (.string (bs (showL l))) := CW.mk fun W hb => show_any A n c l W (h.later hb) (few_n h hf).1 (few_n h hf).2
theorem cw_longest (h : Comes w 2 encL okL A n c l) : CW w 17 #[.slice A n c] (.int .i64 (longL l : Int)) := CW.mk fun W hb => longest_any A n c l W (h.later hb)
theorem cw_get (h : Comes w 2 encL okL A n c l) (nm : ByteArray) : CW w 23 #[.slice A n c, .string nm] (.string (getL l nm)) := CW.mk fun W hb => get_any A n c l nm W (h.later hb)
theorem cw_limit (w : World) (g : Int) : CW w 15 #[.int .i64 g] (.int .i64 (limI g)) := fun W hb => (limit_any g W).mono fun e w' h => ⟨h.1, by rw [h.2]; exact hb⟩
end
theorem chk_few {l : List Lab} (h : checkB l = true) : fewB l = true := (fewB_iff l).2 ⟨by have := check_len h; omega, short_of h⟩
set_option maxRecDepth 20000 in
set_option maxHeartbeats 4000000 in
theorem labelOrder_all (A1 : Option Addr) (n1 c1 : Nat) (a : List Lab) (A2 : Option Addr) (n2 c2 : Nat) (b : List Lab) (A3 : Option Addr) (n3 c3 : Nat) (d : List Lab) (w : World) (ha : Comes w 2 encL okL A1 n1 c1 a) (hb : Comes w 2 encL okL A2 n2 c2 b) (hd : Comes w 2 encL okL A3 n3 c3 d) :
    Calls Try.prog 9 #[.slice A1 n1 c1, .slice A2 n2 c2, .slice A3 n3 c3] w fun e w' => e = .returned (.bool true) ∧ Below w.heap.size w w' := by
  have KW := Lib.hid (cw_works w)
  have KF1 := Lib.hid (cw_few ha)
  have KF2 := Lib.hid (cw_few hb)
  have KF3 := Lib.hid (cw_few hd)
  have HB := Lib.hid (Below.refl w.heap.size w)
  cases f1 : fewB a with
  | false =>
    rw [f1] at KF1
    clear f1 ha hb hd KF2 KF3
    go_enter Try.func9, Try.ntmps9
    go_wp2_with ((first | with_reducible refine (CW.go KW.out HB.out).mono ?_ | with_reducible refine (CW.go KF1.out HB.out).mono ?_); rintro e w1 ⟨rfl, hb⟩; replace HB := Lib.hid hb; clear hb)
    go_ret
    exact ⟨rfl, HB.out⟩
  | true =>
  cases f2 : fewB b with
  | false =>
    rw [f1] at KF1
    rw [f2] at KF2
    clear f1 f2 ha hb hd KF3
    go_enter Try.func9, Try.ntmps9
    go_wp2_with ((first | with_reducible refine (CW.go KW.out HB.out).mono ?_ | with_reducible refine (CW.go KF1.out HB.out).mono ?_ | with_reducible refine (CW.go KF2.out HB.out).mono ?_); rintro e w1 ⟨rfl, hb⟩; replace HB := Lib.hid hb; clear hb)
    go_ret
    exact ⟨rfl, HB.out⟩
  | true =>
  cases f3 : fewB d with
  | false =>
    rw [f1] at KF1
    rw [f2] at KF2
    rw [f3] at KF3
    clear f1 f2 f3 ha hb hd
    go_enter Try.func9, Try.ntmps9
    go_wp2_with ((first | with_reducible refine (CW.go KW.out HB.out).mono ?_ | with_reducible refine (CW.go KF1.out HB.out).mono ?_ | with_reducible refine (CW.go KF2.out HB.out).mono ?_ | with_reducible refine (CW.go KF3.out HB.out).mono ?_); rintro e w1 ⟨rfl, hb⟩; replace HB := Lib.hid hb; clear hb)
    go_ret
    exact ⟨rfl, HB.out⟩
  | true =>
  rw [f1] at KF1
  rw [f2] at KF2
  rw [f3] at KF3
  have L1 := cw_less ha f1 ha f1
  rw [ltB_irrefl] at L1
  have KL1 := Lib.hid L1
  have KL2 := Lib.hid (cw_less ha f1 hb f2)
  have KL3 := Lib.hid (cw_less hb f2 hd f3)
  have KL4 := Lib.hid (cw_less ha f1 hd f3)
  have KL5 := Lib.hid (cw_less hb f2 ha f1)
  have t1 := @ltB_trans (keyL a) (keyL b) (keyL d)
  have t2 : ltB (keyL a) (keyL b) = true → ltB (keyL b) (keyL a) = false := fun h => by
    cases h2 : ltB (keyL b) (keyL a) with
    | false => rfl
    | true => have := ltB_trans h h2; rw [ltB_irrefl] at this; cases this
  clear L1 f1 f2 f3 ha hb hd
  generalize ltB (keyL a) (keyL b) = p1 at *
  generalize ltB (keyL b) (keyL d) = p2 at *
  generalize ltB (keyL a) (keyL d) = p3 at *
  generalize ltB (keyL b) (keyL a) = p4 at *
  cases p1 <;> cases p2 <;> cases p3 <;> cases p4
  all_goals first | (exfalso; simp at t1 t2; done) | (
    clear t1 t2
    go_enter Try.func9, Try.ntmps9
    go_wp2_with ((first | with_reducible refine (CW.go KW.out HB.out).mono ?_ | with_reducible refine (CW.go KF1.out HB.out).mono ?_ | with_reducible refine (CW.go KF2.out HB.out).mono ?_ | with_reducible refine (CW.go KF3.out HB.out).mono ?_ | with_reducible refine (CW.go KL1.out HB.out).mono ?_ | with_reducible refine (CW.go KL2.out HB.out).mono ?_ | with_reducible refine (CW.go KL3.out HB.out).mono ?_ | with_reducible refine (CW.go KL4.out HB.out).mono ?_ | with_reducible refine (CW.go KL5.out HB.out).mono ?_); rintro e w1 ⟨rfl, hb⟩; replace HB := Lib.hid hb; clear hb)
    go_ret
    exact ⟨rfl, HB.out⟩)
end Go.Proofs.Ytgnifdkoaajboaa.FrW
