/-
  LabelTells: THE WALK.
-/
import Derived.Test.YtgnifdkoaajboaaLbLaw4
import Derived.Test.YtgnifdkoaajboaaLbRefSh
namespace Go.Proofs.Ytgnifdkoaajboaa.FrW
set_option linter.unusedVariables false
open Go.RowKit FrM LabM LbM LabW
section
variable {w : World} {A A2 : Option Addr} {n c n2 c2 : Nat} {l l2 : List Lab}
theorem cw_rright (h : Comes w 2 encL okL A n c l) (hf : fewB l = true) : CW w 13 #[.slice A n c] (.bool (checkB l)) := CW.mk fun W hb => rright_any A n c l W (h.later hb) (few_n h hf).2
theorem cw_rlimit (w : World) (g : Int) : CW w 16 #[.int .i64 g] (.int .i64 (limI g)) := fun W hb => (rlimit_any g W).mono fun e w' h => ⟨h.1, by rw [h.2]; exact hb⟩
theorem cw_rshow (h : Comes w 2 encL okL A n c l) (hf : fewB l = true) : CW w 22 #[.slice A n c] (.string (bs (showL l))) := CW.mk fun W hb => rshow_any A n c l W (h.later hb) (few_n h hf).1 (few_n h hf).2
theorem cw_rget (h : Comes w 2 encL okL A n c l) (nm : ByteArray) : CW w 24 #[.slice A n c, .string nm] (.string (getL l nm)) := CW.mk fun W hb => rget_any A n c l nm W (h.later hb)
end
set_option maxRecDepth 20000 in
set_option maxHeartbeats 4000000 in
theorem labelTells_all (A1 : Option Addr) (n1 c1 : Nat) (l : List Lab) (g : Int) (nm : ByteArray) (w : World) (hl : Comes w 2 encL okL A1 n1 c1 l) :
    Calls Try.prog 3 #[.slice A1 n1 c1, .int .i64 g, .string nm] w fun e w' => e = .returned (.bool true) ∧ Below w.heap.size w w' := by
  have KW := Lib.hid (cw_works w)
  have KF1 := Lib.hid (cw_few hl)
  have HB := Lib.hid (Below.refl w.heap.size w)
  cases f1 : fewB l with
  | false =>
    rw [f1] at KF1
    clear f1 hl
    go_enter Try.func3, Try.ntmps3
    go_wp2_with ((first | with_reducible refine (CW.go KW.out HB.out).mono ?_ | with_reducible refine (CW.go KF1.out HB.out).mono ?_); rintro e w1 ⟨rfl, hb⟩; replace HB := Lib.hid hb; clear hb)
    go_ret
    exact ⟨rfl, HB.out⟩
  | true =>
  rw [f1] at KF1
  have K1 := Lib.hid (cw_rright hl f1)
  have K2 := Lib.hid (cw_check hl)
  have K3 := Lib.hid (cw_limit w g)
  have K4 := Lib.hid (cw_rlimit w g)
  have K5 := Lib.hid (cw_longest hl)
  have K6 := Lib.hid (cw_rlongest hl)
  have K7 := Lib.hid (cw_key hl f1)
  have K8 := Lib.hid (cw_rkey hl f1)
  have K9 := Lib.hid (cw_show hl f1)
  have KA := Lib.hid (cw_rshow hl f1)
  have KB := Lib.hid (cw_get hl nm)
  have KC := Lib.hid (cw_rget hl nm)
  generalize bs (keyL l) = X at *
  generalize bs (showL l) = Y at *
  generalize getL l nm = V at *
  generalize limI g = x at *
  generalize longL l = z at *
  clear f1
  cases hc : checkB l with
  | false =>
    rw [hc] at K1
    rw [hc, show errN false 2 = 2 from rfl] at K2
    clear hc hl
    go_enter Try.func3, Try.ntmps3
    go_wp2_with ((first | with_reducible refine (CW.go KW.out HB.out).mono ?_ | with_reducible refine (CW.go KF1.out HB.out).mono ?_ | with_reducible refine (CW.go K1.out HB.out).mono ?_ | with_reducible refine (CW.go K2.out HB.out).mono ?_ | with_reducible refine (CW.go K3.out HB.out).mono ?_ | with_reducible refine (CW.go K4.out HB.out).mono ?_ | with_reducible refine (CW.go K5.out HB.out).mono ?_ | with_reducible refine (CW.go K6.out HB.out).mono ?_ | with_reducible refine (CW.go K7.out HB.out).mono ?_ | with_reducible refine (CW.go K8.out HB.out).mono ?_ | with_reducible refine (CW.go K9.out HB.out).mono ?_ | with_reducible refine (CW.go KA.out HB.out).mono ?_ | with_reducible refine (CW.go KB.out HB.out).mono ?_ | with_reducible refine (CW.go KC.out HB.out).mono ?_); rintro e w1 ⟨rfl, hb⟩; replace HB := Lib.hid hb; clear hb)
    go_ret
    exact ⟨rfl, HB.out⟩
  | true =>
    rw [hc] at K1
    rw [hc, show errN true 2 = 0 from rfl] at K2
    clear hc hl
    go_enter Try.func3, Try.ntmps3
    go_wp2_with ((first | with_reducible refine (CW.go KW.out HB.out).mono ?_ | with_reducible refine (CW.go KF1.out HB.out).mono ?_ | with_reducible refine (CW.go K1.out HB.out).mono ?_ | with_reducible refine (CW.go K2.out HB.out).mono ?_ | with_reducible refine (CW.go K3.out HB.out).mono ?_ | with_reducible refine (CW.go K4.out HB.out).mono ?_ | with_reducible refine (CW.go K5.out HB.out).mono ?_ | with_reducible refine (CW.go K6.out HB.out).mono ?_ | with_reducible refine (CW.go K7.out HB.out).mono ?_ | with_reducible refine (CW.go K8.out HB.out).mono ?_ | with_reducible refine (CW.go K9.out HB.out).mono ?_ | with_reducible refine (CW.go KA.out HB.out).mono ?_ | with_reducible refine (CW.go KB.out HB.out).mono ?_ | with_reducible refine (CW.go KC.out HB.out).mono ?_); rintro e w1 ⟨rfl, hb⟩; replace HB := Lib.hid hb; clear hb)
    go_ret
    exact ⟨rfl, HB.out⟩
end Go.Proofs.Ytgnifdkoaajboaa.FrW
