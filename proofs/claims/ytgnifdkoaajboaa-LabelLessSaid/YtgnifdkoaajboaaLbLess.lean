/-
  LabelLess: THE WALK.
-/
import Derived.Test.YtgnifdkoaajboaaLbLaw3
import Derived.Test.YtgnifdkoaajboaaAppC
namespace Go.Proofs.Ytgnifdkoaajboaa.FrW
set_option linter.unusedVariables false
open Go.RowKit FrM LabM LbM LabW
theorem chk_gt : ∀ (l : List Lab) (last : Txt), chkL last l = true → ∀ x ∈ l, ltB last x.1.data.toList = true
  | [], _, _ => fun x hx => by cases hx
  | y :: l, last, h => by
    unfold chkL at h
    simp only [Bool.and_eq_true] at h
    intro x hx
    rcases List.mem_cons.1 hx with rfl | hx
    · exact h.1.1.1
    · exact ltB_trans h.1.1.1 (chk_gt l _ h.2 x hx)
theorem chk_erase : ∀ (l : List Lab) (last : Txt) (k : Nat), chkL last l = true → chkL last (l.eraseIdx k) = true
  | [], _, k, _ => by cases k <;> rfl
  | y :: l, last, k, h => by
    have h' := h
    unfold chkL at h'
    simp only [Bool.and_eq_true] at h'
    cases k with
    | zero =>
      rw [List.eraseIdx_zero, List.tail_cons]
      cases l with
      | nil => rfl
      | cons z l =>
        have h2 := h'.2
        unfold chkL at h2 ⊢
        simp only [Bool.and_eq_true] at h2 ⊢
        exact ⟨⟨⟨ltB_trans h'.1.1.1 h2.1.1.1, h2.1.1.2⟩, h2.1.2⟩, h2.2⟩
    | succ k =>
      rw [List.eraseIdx_cons_succ]
      unfold chkL
      simp only [Bool.and_eq_true]
      exact ⟨h'.1, chk_erase l _ k h'.2⟩
theorem erase_ne : ∀ (l : List Lab) (last : Txt) (k : Nat) (h : k < l.length), chkL last l = true → ∀ x ∈ l.eraseIdx k, x.1 ≠ l[k].1
  | [], _, k, h, _ => by simp at h
  | y :: l, last, 0, h, hc => by
    unfold chkL at hc
    simp only [Bool.and_eq_true] at hc
    intro x hx e
    have h1 := chk_gt l _ hc.2 x hx
    rw [e] at h1
    have h2 := ltB_irrefl y.1.data.toList
    rw [show ((y :: l)[0]).1 = y.1 from rfl] at h1
    rw [h1] at h2
    cases h2
  | y :: l, last, k + 1, h, hc => by
    unfold chkL at hc
    simp only [Bool.and_eq_true] at hc
    have hk : k < l.length := by simpa using h
    intro x hx e
    rw [List.eraseIdx_cons_succ] at hx
    have e2 : ((y :: l)[k + 1]).1 = l[k].1 := rfl
    rw [e2] at e
    rcases List.mem_cons.1 hx with rfl | hx
    · have h1 := chk_gt l _ hc.2 _ (List.getElem_mem hk)
      rw [e] at h1
      have h2 := ltB_irrefl l[k].1.data.toList
      rw [h1] at h2
      cases h2
    · exact erase_ne l _ k hk hc.2 x hx e
theorem get_ne : ∀ (l : List Lab) (nm : ByteArray), (∀ x ∈ l, x.1 ≠ nm) → getL l nm = ByteArray.empty
  | [], _, _ => rfl
  | y :: l, nm, h => by
    unfold getL
    rw [if_neg]
    · exact get_ne l nm (fun x hx => h x (List.mem_cons_of_mem _ hx))
    · intro e
      rw [beq_iff_eq] at e
      refine h y List.mem_cons_self ?_
      have e2 := congrArg (fun t : List UInt8 => bs t) e
      simp only [ByteArray.toList_eq] at e2
      rw [bs_of, bs_of] at e2
      exact e2
theorem longL_erase (l : List Lab) (k : Nat) : longL (l.eraseIdx k) ≤ longL l :=
  longL_le (fun x hx => longL_mem x (List.mem_of_mem_eraseIdx hx))
theorem check_erase {l : List Lab} (h : checkB l = true) (k : Nat) (h2 : 2 ≤ l.length) : checkB (l.eraseIdx k) = true := by
  have hl := check_len h
  unfold checkB at h ⊢
  simp only [Bool.and_eq_true, decide_eq_true_eq] at h ⊢
  have hle : (l.eraseIdx k).length ≤ l.length := List.length_eraseIdx_le l k
  have hge : l.length - 1 ≤ (l.eraseIdx k).length := by
    rw [List.length_eraseIdx]; split <;> omega
  refine ⟨⟨chk_erase l _ k h.1.1, ?_⟩, by omega⟩
  cases he : l.eraseIdx k with
  | nil => rw [he] at hge; simp at hge; omega
  | cons => rfl
theorem oneL (x : Lab) : ∀ u ∈ encL x, u.oneCell' = true := by
  intro u hu
  simp [encL] at hu
  rcases hu with rfl | rfl <;> rfl
/-- What is behind the first things that lie there. -/
theorem comes_drop {w : World} {b o n c : Nat} {l : List Lab} (h : Comes w 2 encL okL (some ⟨b, o, none⟩) n c l) {k : Nat} (hk : k ≤ n) : Comes w 2 encL okL (some ⟨b, o + k * 2, none⟩) (n - k) (c - k) (l.drop k) := by
  refine ⟨by rw [List.length_drop, h.len], by have := h.le; omega, by have := h.cap; omega, fun i x hi => ?_, fun x hx => h.ok x (List.mem_of_mem_drop hx)⟩
  rw [List.getElem?_drop] at hi
  obtain ⟨b', o', hA, hb, hc⟩ := h.lies (k + i) x hi
  simp only [Option.some.injEq, Addr.mk.injEq] at hA
  obtain ⟨rfl, rfl, _⟩ := hA
  refine ⟨b, o + k * 2, rfl, hb, fun j u hu => ?_⟩
  have := hc j u hu
  rw [← this]
  congr 2
  omega
set_option maxRecDepth 20000 in
set_option maxHeartbeats 4000000 in
theorem labelLess_all (A1 : Option Addr) (n1 c1 : Nat) (l : List Lab) (a : Int) (w : World) (hl : Comes w 2 encL okL A1 n1 c1 l) (ha : 0 ≤ a ∧ a ≤ 255) :
    Calls Try.prog 8 #[.slice A1 n1 c1, .int .u8 a] w fun e w' => e = .returned (.bool true) ∧ Below w.heap.size w w' := by
  have KW := Lib.hid (cw_works w)
  have KF1 := Lib.hid (cw_few hl)
  have KC := Lib.hid (cw_check hl)
  have HB := Lib.hid (Below.refl w.heap.size w)
  cases f1 : fewB l with
  | false =>
    rw [f1] at KF1
    clear f1 hl KC
    go_enter Try.func8, Try.ntmps8
    go_wp2_with ((first | with_reducible refine (CW.go KW.out HB.out).mono ?_ | with_reducible refine (CW.go KF1.out HB.out).mono ?_); rintro e w1 ⟨rfl, hb⟩; replace HB := Lib.hid hb; clear hb)
    go_ret
    exact ⟨rfl, HB.out⟩
  | true =>
  rw [f1] at KF1
  cases hc : checkB l with
  | false =>
    rw [hc, show errN false 2 = 2 from rfl] at KC
    clear hc hl f1
    go_enter Try.func8, Try.ntmps8
    go_wp2_with ((first | with_reducible refine (CW.go KW.out HB.out).mono ?_ | with_reducible refine (CW.go KF1.out HB.out).mono ?_ | with_reducible refine (CW.go KC.out HB.out).mono ?_); rintro e w1 ⟨rfl, hb⟩; replace HB := Lib.hid hb; clear hb)
    go_ret
    exact ⟨rfl, HB.out⟩
  | true =>
  rw [hc, show errN true 2 = 0 from rfl] at KC
  by_cases hn : n1 < 2
  · have hn' : (n1 : Int) < 2 := by omega
    clear hc hl f1
    go_enter Try.func8, Try.ntmps8
    go_wp2_with ((first | with_reducible refine (CW.go KW.out HB.out).mono ?_ | with_reducible refine (CW.go KF1.out HB.out).mono ?_ | with_reducible refine (CW.go KC.out HB.out).mono ?_); rintro e w1 ⟨rfl, hb⟩; replace HB := Lib.hid hb; clear hb)
    go_ret
    exact ⟨rfl, HB.out⟩
  have hlen := hl.len
  have hcl := check_len hc
  obtain ⟨x, hx⟩ : ∃ x : Nat, a = (x : Int) := ⟨a.toNat, by omega⟩
  subst hx
  obtain ⟨k, hk⟩ : ∃ k, x % n1 = k := ⟨_, rfl⟩
  have hkn : k < n1 := by rw [← hk]; exact Nat.mod_lt _ (by omega)
  have hki : (x : Int) % (n1 : Int) = (k : Int) := by omega
  have hkt : Int.tmod (x : Int) (n1 : Int) = (k : Int) := by rw [Int.tmod_eq_emod_of_nonneg (by omega)]; exact hki
  have hkl : k < l.length := by omega
  obtain ⟨b, o, rfl, hcs⟩ := lab_cells hl.lies hkl
  have HCS := Lib.hid hcs
  have HL := Lib.hid hl
  have HCH := Lib.hid (And.intro hc (And.intro hkl (And.intro hlen (show 2 ≤ l.length by omega))))
  have hle := hl.le
  have hcap : c1 ≤ 9223372036854775807 := hl.cap
  have hn' : ¬ (n1 : Int) < 2 := by omega
  have n6 : n1 ≤ 6 := by omega
  have k0 : (0 : Int) ≤ (k : Int) := by omega
  have k1 : (k : Int) < (n1 : Int) := by omega
  have hnz : ¬ (n1 : Int) = 0 := by omega
  have hnzb : ((n1 : Int) == 0) = false := by simp; omega
  have hs1 := comes_take hl (k := k) (by omega)
  have hs2 : c1 ≠ k + 1 → Comes w 2 encL okL (some ⟨b, o + (k + 1) * 2, none⟩) (n1 - (k + 1)) (c1 - (k + 1)) (l.drop (k + 1)) := fun _ => comes_drop hl (k := k + 1) (by omega)
  have hs3 : c1 = k + 1 → Comes w 2 encL okL (some ⟨b, o, none⟩) 0 0 (l.drop (k + 1)) := fun e => by
    have e2 : l.drop (k + 1) = [] := List.drop_of_length_le (by omega)
    rw [e2]
    exact ⟨rfl, by omega, by omega, Lies.nil, fun x hx => by cases hx⟩
  have HS := Lib.hid hs1
  have HS2 := Lib.hid hs2
  have HS3 := Lib.hid hs3
  clear hc hl f1 hcs hlen hcl hs1 hs2 hs3 hk hki
  by_cases hck : c1 = k + 1
  · subst hck
    have HS4 := Lib.hid (HS3.out rfl)
    clear HS2 HS3
    go_enter Try.func8, Try.ntmps8
    go_wp2_with (first
      | ((first | with_reducible refine (CW.go KW.out HB.out).mono ?_ | with_reducible refine (CW.go KF1.out HB.out).mono ?_ | with_reducible refine (CW.go KC.out HB.out).mono ?_); rintro e w1 ⟨rfl, hb⟩; replace HB := Lib.hid hb; clear hb)
      | (at_builtin; first
        | (refine wpList_append_comes rfl _ _ 22 rfl w.heap.size 38 (.agg #[.string ⟨#[]⟩, .string ⟨#[]⟩]) 2 32 Try.underlying22 elemL rfl (by decide) w1 (World.ownsRow_nil w1 w.heap.size _ _) rfl rfl (HS.out.later HB.out) encL_len oneL (by omega) (by omega) HB.out.size ?_
           intro v2 w2 hown2 hb2
           have HB2 := Lib.hid (HB.out.trans hb2)
           have HO2 := Lib.hid hown2
           clear hb2 hown2)
        | (refine wpList_append_comes rfl _ _ 22 rfl w.heap.size 38 (.agg #[.string ⟨#[]⟩, .string ⟨#[]⟩]) 2 32 Try.underlying22 elemL rfl (by decide) w2 HO2.out rfl rfl (HS4.out.later HB2.out) encL_len oneL (by omega) (by omega) HB2.out.size ?_
           intro v3 w3 hown3 hb3
           have HB3 := Lib.hid (HB2.out.trans hb3)
           have HO3 : w3.ownsRow w.heap.size 38 2 v3 (n1 - 1) ((l.eraseIdx k).flatMap encL) := by
             rw [List.eraseIdx_eq_take_drop_succ, List.flatMap_append, ← List.nil_append (List.flatMap encL (List.take k l))]
             have e1 : n1 - 1 = 0 + k + 0 := by omega
             rw [e1]
             exact hown3
           obtain ⟨A3, c3, rfl, -, hcm⟩ := Comes.of_own (okA := okL) HO3 encL_len (by decide) (fun x hx => HL.out.ok x (List.mem_of_mem_eraseIdx hx))
           have hck2 := check_erase HCH.out.1 k HCH.out.2.2.2
           have K1 := cw_check hcm
           rw [hck2, show errN true 2 = 0 from rfl] at K1
           have J1 := Lib.hid K1
           have J2 := Lib.hid (cw_longest hcm)
           have J3 := Lib.hid (cw_longest (HL.out.later HB3.out))
           have K4 := cw_get hcm (l[k]'HCH.out.2.1).1
           rw [get_ne _ _ (erase_ne l [] k HCH.out.2.1 (by have := HCH.out.1; unfold checkB at this; simp only [Bool.and_eq_true] at this; exact this.1.1))] at K4
           have J4 := Lib.hid K4
           have hlong : (longL (l.eraseIdx k) : Int) ≤ (longL l : Int) := by have := longL_erase l k; omega
           have HC3 := Lib.hid (fun W (hb : Below w3.heap.size w3 W) => (HCS.out W (HB3.out.trans (hb.mono HB3.out.size))).1)
           have HB4 := Lib.hid (Below.refl w3.heap.size w3)
           generalize (l[k]'HCH.out.2.1).1 = nm at *
           generalize longL (l.eraseIdx k) = z1 at *
           generalize longL l = z2 at *
           clear hb3 hown3 HO3 HO2 hcm hck2 K1 K4)))
    go_wp2_with ((first | with_reducible refine (CW.go J1.out HB4.out).mono ?_ | with_reducible refine (CW.go J2.out HB4.out).mono ?_ | with_reducible refine (CW.go J3.out HB4.out).mono ?_ | with_reducible refine (CW.go J4.out HB4.out).mono ?_); rintro e w5 ⟨rfl, hb⟩; replace HB4 := Lib.hid hb; have cell0 := HC3.out _ hb; clear hb)
    go_ret
    exact ⟨rfl, HB3.out.trans (HB4.out.mono HB3.out.size)⟩
  have hck2 : ¬ (c1 : Int) = (k : Int) + 1 := by omega
  go_enter Try.func8, Try.ntmps8
  go_wp2_with (first
    | ((first | with_reducible refine (CW.go KW.out HB.out).mono ?_ | with_reducible refine (CW.go KF1.out HB.out).mono ?_ | with_reducible refine (CW.go KC.out HB.out).mono ?_); rintro e w1 ⟨rfl, hb⟩; replace HB := Lib.hid hb; clear hb)
    | (at_builtin; first
      | (refine wpList_append_comes rfl _ _ 22 rfl w.heap.size 38 (.agg #[.string ⟨#[]⟩, .string ⟨#[]⟩]) 2 32 Try.underlying22 elemL rfl (by decide) w1 (World.ownsRow_nil w1 w.heap.size _ _) rfl rfl (HS.out.later HB.out) encL_len oneL (by omega) (by omega) HB.out.size ?_
         intro v2 w2 hown2 hb2
         have HB2 := Lib.hid (HB.out.trans hb2)
         have HO2 := Lib.hid hown2
         clear hb2 hown2)
      | (refine wpList_append_comes rfl _ _ 22 rfl w.heap.size 38 (.agg #[.string ⟨#[]⟩, .string ⟨#[]⟩]) 2 32 Try.underlying22 elemL rfl (by decide) w2 HO2.out rfl rfl ((HS2.out hck).later HB2.out) encL_len oneL (by omega) (by omega) HB2.out.size ?_
         intro v3 w3 hown3 hb3
         have HB3 := Lib.hid (HB2.out.trans hb3)
         have HO3 : w3.ownsRow w.heap.size 38 2 v3 (n1 - 1) ((l.eraseIdx k).flatMap encL) := by
           rw [List.eraseIdx_eq_take_drop_succ, List.flatMap_append, ← List.nil_append (List.flatMap encL (List.take k l))]
           have e1 : n1 - 1 = 0 + k + (n1 - (k + 1)) := by omega
           rw [e1]
           exact hown3
         obtain ⟨A3, c3, rfl, -, hcm⟩ := Comes.of_own (okA := okL) HO3 encL_len (by decide) (fun x hx => HL.out.ok x (List.mem_of_mem_eraseIdx hx))
         have hck2 := check_erase HCH.out.1 k HCH.out.2.2.2
         have K1 := cw_check hcm
         rw [hck2, show errN true 2 = 0 from rfl] at K1
         have J1 := Lib.hid K1
         have J2 := Lib.hid (cw_longest hcm)
         have J3 := Lib.hid (cw_longest (HL.out.later HB3.out))
         have K4 := cw_get hcm (l[k]'HCH.out.2.1).1
         rw [get_ne _ _ (erase_ne l [] k HCH.out.2.1 (by have := HCH.out.1; unfold checkB at this; simp only [Bool.and_eq_true] at this; exact this.1.1))] at K4
         have J4 := Lib.hid K4
         have hlong : (longL (l.eraseIdx k) : Int) ≤ (longL l : Int) := by have := longL_erase l k; omega
         have HC3 := Lib.hid (fun W (hb : Below w3.heap.size w3 W) => (HCS.out W (HB3.out.trans (hb.mono HB3.out.size))).1)
         have HB4 := Lib.hid (Below.refl w3.heap.size w3)
         generalize (l[k]'HCH.out.2.1).1 = nm at *
         generalize longL (l.eraseIdx k) = z1 at *
         generalize longL l = z2 at *
         clear hb3 hown3 HO3 HO2 hcm hck2 K1 K4)))
  go_wp2_with ((first | with_reducible refine (CW.go J1.out HB4.out).mono ?_ | with_reducible refine (CW.go J2.out HB4.out).mono ?_ | with_reducible refine (CW.go J3.out HB4.out).mono ?_ | with_reducible refine (CW.go J4.out HB4.out).mono ?_); rintro e w5 ⟨rfl, hb⟩; replace HB4 := Lib.hid hb; have cell0 := HC3.out _ hb; clear hb)
  go_ret
  exact ⟨rfl, HB3.out.trans (HB4.out.mono HB3.out.size)⟩
end Go.Proofs.Ytgnifdkoaajboaa.FrW
