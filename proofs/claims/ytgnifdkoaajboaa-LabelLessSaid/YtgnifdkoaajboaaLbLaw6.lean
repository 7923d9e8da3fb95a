/-
  LabelReads: THE WALK.
-/
import Derived.Test.YtgnifdkoaajboaaLbLaw4
import Derived.Test.YtgnifdkoaajboaaLbRefR
namespace Go.Proofs.Ytgnifdkoaajboaa.FrW
set_option linter.unusedVariables false
open Go.RowKit FrM LabM LbM LabW
theorem comes_nil (w : World) : Comes w 2 encL okL none 0 0 [] := ⟨rfl, Nat.le_refl _, Nat.zero_le _, Lies.nil, fun x hx => by cases hx⟩
theorem LabPost.both {w w' : World} {e : Ending} {R : Option (List Lab)} (h : LabPost w R e w') : ∃ A n c, e = .returned (.tuple #[.slice A n c, .bool R.isSome]) ∧ Comes w' 2 encL okL A n c (R.getD []) ∧ Below w.heap.size w w' := by
  cases R with
  | none => exact ⟨none, 0, 0, h.1, comes_nil _, h.2⟩
  | some l => obtain ⟨A, c, h1, h2, h3⟩ := h; exact ⟨A, _, c, h1, h2, h3⟩
set_option maxRecDepth 20000 in
set_option maxHeartbeats 4000000 in
theorem labelReads_all (s t : ByteArray) (w : World) (_ : s.size ≤ maxLen) (_ : t.size ≤ maxLen) :
    Calls Try.prog 4 #[.string s, .string t] w fun e w' => e = .returned (.bool true) ∧ Below w.heap.size w w' := by
  have KW := Lib.hid (cw_works w)
  have HB := Lib.hid (Below.refl w.heap.size w)
  obtain ⟨l, rfl⟩ : ∃ l, s = bs l := ⟨s.data.toList, rfl⟩
  obtain ⟨m, rfl⟩ : ∃ l, t = bs l := ⟨t.data.toList, rfl⟩
  have hz := bs_size l
  have hz2 := bs_size m
  by_cases hs : 300 < l.length
  · obtain ⟨X, hX⟩ : ∃ X, bs l = X := ⟨_, rfl⟩
    obtain ⟨Y, hY⟩ : ∃ X, bs m = X := ⟨_, rfl⟩
    rw [hX] at hz ⊢
    rw [hY] at hz2 ⊢
    have hs2 : ((l.length : Nat) : Int) > 300 := by omega
    clear hX hY
    go_enter Try.func4, Try.ntmps4
    go_wp2_with (with_reducible refine (CW.go KW.out HB.out).mono ?_; rintro e w1 ⟨rfl, hb⟩; replace HB := Lib.hid hb; clear hb)
    go_ret
    exact ⟨rfl, HB.out⟩
  have hs2 : ¬ ((l.length : Nat) : Int) > 300 := by omega
  by_cases ht : 300 < m.length
  · obtain ⟨X, hX⟩ : ∃ X, bs l = X := ⟨_, rfl⟩
    obtain ⟨Y, hY⟩ : ∃ X, bs m = X := ⟨_, rfl⟩
    rw [hX] at hz ⊢
    rw [hY] at hz2 ⊢
    have ht2 : ((m.length : Nat) : Int) > 300 := by omega
    clear hX hY
    go_enter Try.func4, Try.ntmps4
    go_wp2_with (with_reducible refine (CW.go KW.out HB.out).mono ?_; rintro e w1 ⟨rfl, hb⟩; replace HB := Lib.hid hb; clear hb)
    go_ret
    exact ⟨rfl, HB.out⟩
  have ht2 : ¬ ((m.length : Nat) : Int) > 300 := by omega
  have O1 := fun W => of_any l W (by omega)
  have O2 := fun W => rof_any l W (by omega)
  have O3 := fun W => read_any m W (by omega)
  have O4 := fun W => rread_any m W (by omega)
  simp only [← read_same] at O4
  have K1 := Lib.hid (fun W => (O1 W).mono fun e w' h => h.both)
  have K2 := Lib.hid (fun W => (O2 W).mono fun e w' h => h.both)
  have K3 := Lib.hid (fun W => (O3 W).mono fun e w' h => h.both)
  have K4 := Lib.hid (fun W => (O4 W).mono fun e w' h => h.both)
  obtain ⟨X, hX⟩ : ∃ X, bs l = X := ⟨_, rfl⟩
  obtain ⟨Y, hY⟩ : ∃ X, bs m = X := ⟨_, rfl⟩
  rw [hX] at hz K1 K2 ⊢
  rw [hY] at hz2 K3 K4 ⊢
  obtain ⟨n, hn⟩ : ∃ n, l.length = n := ⟨_, rfl⟩
  obtain ⟨q, hq⟩ : ∃ n, m.length = n := ⟨_, rfl⟩
  rw [hn] at hz hs2
  rw [hq] at hz2 ht2
  obtain ⟨a, ha⟩ : ∃ a, (ofL l).getD [] = a := ⟨_, rfl⟩
  obtain ⟨b, hb⟩ : ∃ a, (readA m).getD [] = a := ⟨_, rfl⟩
  obtain ⟨p, hp⟩ : ∃ a, (ofL l).isSome = a := ⟨_, rfl⟩
  obtain ⟨r, hr⟩ : ∃ a, (readA m).isSome = a := ⟨_, rfl⟩
  rw [ha, hp] at K1 K2
  rw [hb, hr] at K3 K4
  clear O1 O2 O3 O4 hX hY hn hq ha hb hp hr hs ht
  go_enter Try.func4, Try.ntmps4
  go_wp2_with (with_reducible refine (CW.go KW.out HB.out).mono ?_; rintro e w1 ⟨rfl, hb⟩; replace HB := Lib.hid hb; clear hb)
  refine (K1.out _).mono ?_
  rintro e w2 ⟨A1, n1, c1, rfl, hc1, hb1⟩
  have H1 := Lib.hid (And.intro (later HB.out hb1) hc1)
  clear hb1 hc1
  go_wp2_with fail
  refine (K2.out _).mono ?_
  rintro e w3 ⟨A2, n2, c2, rfl, hc2, hb2⟩
  have H2 := Lib.hid (And.intro (later H1.out.1 hb2) (And.intro (H1.out.2.later hb2) hc2))
  clear hb2 hc2
  go_wp2_with fail
  refine (K3.out _).mono ?_
  rintro e w4 ⟨A3, n3, c3, rfl, hc3, hb3⟩
  have H3 := Lib.hid (And.intro (later H2.out.1 hb3) (And.intro (H2.out.2.1.later hb3) (And.intro (H2.out.2.2.later hb3) hc3)))
  clear hb3 hc3
  go_wp2_with fail
  refine (K4.out _).mono ?_
  rintro e w5 ⟨A4, n4, c4, rfl, hc4, hb4⟩
  have J1 := cw_rsame (H3.out.2.1.later hb4) (H3.out.2.2.1.later hb4)
  have J2 := cw_rsame (H3.out.2.2.2.later hb4) hc4
  rw [decide_eq_true (rfl : a = a)] at J1
  rw [decide_eq_true (rfl : b = b)] at J2
  have L1 := Lib.hid J1
  have L2 := Lib.hid J2
  have H4 := Lib.hid (later H3.out.1 hb4)
  replace HB := Lib.hid (Below.refl w5.heap.size w5)
  clear hb4 hc4 J1 J2 K1 K2 K3 K4 H1 H2 H3
  go_wp2_with ((first | with_reducible refine (CW.go L1.out HB.out).mono ?_ | with_reducible refine (CW.go L2.out HB.out).mono ?_); rintro e w6 ⟨rfl, hb⟩; replace HB := Lib.hid hb; clear hb)
  all_goals (
    go_ret
    exact ⟨rfl, H4.out.trans (HB.out.mono H4.out.size)⟩)
end Go.Proofs.Ytgnifdkoaajboaa.FrW
