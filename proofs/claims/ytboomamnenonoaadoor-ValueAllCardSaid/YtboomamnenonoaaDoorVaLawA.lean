/-
  ValueAll: THE WALK.
-/
import Derived.Test.YtboomamnenonoaaDoorVaFin
import Derived.Test.YtboomamnenonoaaDoorVaRefJ
namespace Go.Proofs.YtboomamnenonoaaDoor.VaW
set_option linter.unusedVariables false
open Go.RowKit Go.Shelf BitsM BitsW VaM
set_option maxRecDepth 20000 in
set_option maxHeartbeats 4000000 in
theorem valueAll_all (A : Option Addr) (n c : Nat) (l : List Nat) (B : ByteArray) (k : Int) (w : World) (hl : Comes w 1 encU okU A n c l) (hB : B.size ≤ maxLen) (_ : (Lit.int .i64 k).wf = true) (hT : Tab w) :
    Calls Tryd.prog 3 #[.slice A n c, .string B, .int .i64 k] w fun e w' => e = .returned (.bool true) ∧ Below w.heap.size w w' := by
  have HL := Lib.hid hl
  have HTT : Hid (∀ W, Below w.heap.size w W → Tab W) := Lib.hid fun W h => hT.later h
  have hcap : c ≤ 9223372036854775807 := hl.cap
  have hle := hl.le
  have hB' : B.size ≤ 9223372036854775807 := hB
  clear hl hB hT
  by_cases hbig : 60 < n ∨ 60 < B.size
  · have hcase : (n : Int) > 60 ∨ (¬ (n : Int) > 60 ∧ (B.size : Int) > 60) := by omega
    clear hbig
    rcases hcase with h1 | ⟨h1, h2⟩
    all_goals (
      go_enter Tryd.func3, Tryd.ntmps3
      go_wp2_with fail
      refine (works_any _ (HTT.out _ (Below.refl _ _))).mono ?_
      rintro e w1 ⟨rfl, hb1⟩
      have HB1 := Lib.hid hb1
      clear hb1
      go_wp2_with fail
      go_ret
      exact ⟨rfl, HB1.out⟩)
  have h1 : ¬ (n : Int) > 60 := by omega
  have h2 : ¬ (B.size : Int) > 60 := by omega
  have hn60 : n ≤ 60 := by omega
  have hb60 : B.size ≤ 60 := by omega
  have K1 : Hid (∀ W, Tab W → Calls Tryd.prog 9 #[.string B, .int .i64 k] W fun e w' => ∃ A j c, e = .returned (.tuple #[.slice A j c, .bool (readB (unpack B.data.toList) k).isSome]) ∧ Comes w' 1 encU okU A j c ((readB (unpack B.data.toList) k).getD []) ∧ Below W.heap.size W w') := Lib.hid (fun W h => read_any B k W (by omega) h)
  have K2 : Hid (∀ W, Calls Tryd.prog 10 #[.string B, .int .i64 k] W fun e w' => ∃ A j c, e = .returned (.tuple #[.slice A j c, .bool (readB (unpack B.data.toList) k).isSome]) ∧ Comes w' 1 encU okU A j c ((readB (unpack B.data.toList) k).getD []) ∧ Below W.heap.size W w') := Lib.hid (fun W => rread_any B k W (by omega))
  obtain ⟨m, hm⟩ : ∃ m, (readB (unpack B.data.toList) k).getD [] = m := ⟨_, rfl⟩
  obtain ⟨p, hp⟩ : ∃ p, (readB (unpack B.data.toList) k).isSome = p := ⟨_, rfl⟩
  rw [hm, hp] at K1 K2
  have K3 : Hid (∀ W, Below w.heap.size w W → Calls Tryd.prog 11 #[.slice A n c] W fun e w' => e = .returned (.string ⟨(pack (bitsV v0 l)).toArray⟩) ∧ Below W.heap.size W w') := Lib.hid (fun W h => all_any A n c l W (HL.out.later h) (by omega) (HTT.out _ h))
  have K4 : Hid (∀ W, Below w.heap.size w W → Calls Tryd.prog 12 #[.slice A n c] W fun e w' => e = .returned (.string ⟨(pack (bitsV v0 l)).toArray⟩) ∧ Below W.heap.size W w') := Lib.hid (fun W h => rall_any A n c l W (HL.out.later h) (by omega))
  obtain ⟨X, hX⟩ : ∃ X : ByteArray, ⟨(pack (bitsV v0 l)).toArray⟩ = X := ⟨_, rfl⟩
  rw [hX] at K3 K4
  clear hm hp hX hbig
  go_enter Tryd.func3, Tryd.ntmps3
  go_wp2_with fail
  refine (works_any _ (HTT.out _ (Below.refl _ _))).mono ?_
  rintro e w1 ⟨rfl, hb1⟩
  have HB1 := Lib.hid hb1
  clear hb1
  go_wp2_with fail
  refine (K1.out _ (HTT.out _ HB1.out)).mono ?_
  rintro e w2 ⟨A2, n2, c2, rfl, hc2, hb2⟩
  have HB2 := Lib.hid (And.intro (later HB1.out hb2) hc2)
  clear hb2 hc2
  go_wp2_with fail
  refine (K2.out _).mono ?_
  rintro e w3 ⟨A3, n3, c3, rfl, hc3, hb3⟩
  have HB3 := Lib.hid (And.intro (later HB2.out.1 hb3) (And.intro (HB2.out.2.later hb3) hc3))
  clear hb3 hc3
  go_wp2_with fail
  refine (K3.out _ HB3.out.1).mono ?_
  rintro e w4 ⟨rfl, hb4⟩
  have HB4 := Lib.hid (And.intro (later HB3.out.1 hb4) (And.intro (HB3.out.2.1.later hb4) (HB3.out.2.2.later hb4)))
  clear hb4
  go_wp2_with fail
  refine (K4.out _ HB4.out.1).mono ?_
  rintro e w5 ⟨rfl, hb5⟩
  have HB5 := Lib.hid (And.intro (later HB4.out.1 hb5) (And.intro (HB4.out.2.1.later hb5) (HB4.out.2.2.later hb5)))
  clear hb5
  go_wp2_with fail
  refine (rsame_any A2 n2 c2 m A3 n3 c3 m _ HB5.out.2.1 HB5.out.2.2).mono ?_
  rw [decide_eq_true (rfl : m = m)]
  rintro e w6 ⟨rfl, hb6⟩
  have HB6 := Lib.hid (later HB5.out.1 hb6)
  clear hb6
  go_wp2_with fail
  go_ret
  exact ⟨rfl, HB6.out⟩
end Go.Proofs.YtboomamnenonoaaDoor.VaW
