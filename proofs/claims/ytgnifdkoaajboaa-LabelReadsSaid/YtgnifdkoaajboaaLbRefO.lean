/-
  alluviumref06.Of, Read: THE WALKS.
-/
import Derived.Test.YtgnifdkoaajboaaLbRefG
import Derived.Test.YtgnifdkoaajboaaLbWord
import Derived.Test.YtgnifdkoaajboaaLbRead
import Derived.Test.YtgnifdkoaajboaaLbRight
namespace Go.Proofs.Ytgnifdkoaajboaa.FrW
set_option linter.unusedVariables false
open Go.RowKit FrM LabM LbM LabW
theorem getT_len {s b r : List UInt8} (h : getT s = some (b, r)) : r.length < s.length ∧ b.length ≤ 48 := by
  obtain ⟨g1, g2⟩ := getT_is h
  have g1 := congrArg List.length g1
  have gp := sm_pos 9 b.length
  simp only [text, small, List.length_append] at g1
  exact ⟨by omega, g2⟩
theorem of_step (s : List UInt8) (pre : List Lab) (rest : List UInt8) (h : OfInv s pre rest false) (hr : rest ≠ []) :
    (getT rest = none → ofL s = none) ∧ ∀ b r, getT rest = some (b, r) → (getT r = none → ofL s = none) ∧ ∀ v t, getT r = some (v, t) → OfInv s (pre ++ [(tx b, tx v)]) t false := by
  obtain ⟨f, h1, h2, h3⟩ := h
  cases f with
  | zero => omega
  | succ f =>
    have hO : pairs (s.length + 1) s = none → ofL s = none := fun h => by unfold ofL; rw [h]
    obtain ⟨P0, hP⟩ : ∃ P, pairs (s.length + 1) s = P := ⟨_, rfl⟩
    have HI : ∀ rest' pre' f, rest'.length < f → pre'.length + rest'.length ≤ s.length → P0 = (pairs f rest').map (pre' ++ ·) → OfInv s pre' rest' false := fun rest' pre' f h1 h2 h3 => ⟨f, h1, h2, by rw [hP]; exact h3⟩
    rw [hP] at hO h3
    clear hP
    unfold pairs at h3
    rw [if_neg hr] at h3
    refine ⟨fun hg => ?_, fun b r hg => ⟨fun hg2 => ?_, fun v t hg2 => ?_⟩⟩
    · rw [hg] at h3; exact hO h3
    · rw [hg] at h3; simp only [] at h3; rw [hg2] at h3; exact hO h3
    · rw [hg] at h3; simp only [] at h3; rw [hg2] at h3; simp only [] at h3
      have l1 := getT_len hg
      have l2 := getT_len hg2
      refine HI t _ f (by omega) ?_ ?_
      · rw [List.length_append, List.length_singleton]; omega
      · rw [h3]; cases pairs f t <;> simp
theorem short48 {pre : List Lab} {b v : List UInt8} (h : shortL pre) (hb : b.length ≤ 300) (hv : v.length ≤ 300) : shortL (pre ++ [(tx b, tx v)]) := by
  intro x hx
  rcases List.mem_append.1 hx with hx | hx
  · exact h x hx
  · rw [List.mem_singleton] at hx
    subst hx
    refine ⟨?_, ?_⟩
    · show (bs b).size ≤ 300; rw [bs_size]; omega
    · show (bs v).size ≤ 300; rw [bs_size]; omega
theorem short_ok {pre : List Lab} (h : shortL pre) : ∀ x ∈ pre, okL x := fun x hx => by
  have := h x hx
  unfold okL maxLen
  omega
theorem nil_beq (l : List UInt8) (h : l ≠ []) : (bs l).toList.isEmpty = false := by
  rw [ByteArray.toList_eq, bs_list]; cases l with
  | nil => exact absurd rfl h
  | cons a b => rfl
set_option maxRecDepth 20000 in
set_option maxHeartbeats 4000000 in
theorem rof_any (s : List UInt8) (w : World) (hs : s.length ≤ 1099511627776) :
    Calls Try.prog 26 #[.string (bs s)] w fun e w' => LabPost w (ofL s) e w' := by
  obtain ⟨R, hR⟩ : ∃ R, ofL s = R := ⟨_, rfl⟩
  have HR := Lib.hid hR
  rw [hR]
  obtain ⟨Q, hQ⟩ : ∃ Q : Option (List Lab) → Ending → World → Prop, LabPost w = Q := ⟨_, rfl⟩
  have HQ0 : Hid (∀ w', Below w.heap.size w w' → Q none (.returned (.tuple #[.slice none 0 0, .bool false])) w') := Lib.hid (by rw [← hQ]; exact fun w' h => LabPost.no h)
  have HQ1 : Hid (∀ (A : Option Addr) (n c : Nat) (l : List Lab) (w' : World), l.length = n → Comes w' 2 encL okL A n c l → Below w.heap.size w w' → Q (some l) (.returned (.tuple #[.slice A n c, .bool true])) w') := Lib.hid (by rw [← hQ]; exact fun A n c l w' h1 h2 h3 => LabPost.yes h1 h2 h3)
  rw [hQ]
  clear hR hQ
  obtain ⟨X, hX⟩ : ∃ X, bs s = X := ⟨_, rfl⟩
  have HX := Lib.hid hX
  rw [hX]
  clear hX
  go_enter Try.func26, Try.ntmps26
  go_wp2_with fail
  go_loopw [4, 5, 6, 7, 8, 9, 10, 11] (fun v4 v5 _ _ _ _ _ _ wr => ∃ (pre : List Lab) (rest : List UInt8), OfInv s pre rest false ∧ rest.length ≤ s.length ∧ v5 = .string (bs rest) ∧ wr.ownsRow w.heap.size 38 2 v4 pre.length (pre.flatMap encL) ∧ shortL pre ∧ Below w.heap.size w wr) (fun v4 _ _ _ _ _ _ _ _ => s.length + 2 - slLen v4)
  case atStart => exact ⟨[], s, OfInv.zero s, Nat.le_refl _, by rw [HX.out], World.ownsRow_nil _ _ _ _, fun x hx => (by cases hx), Below.refl _ _⟩
  case round =>
    obtain ⟨pre, rest, hinv, hrl, rfl, hown, hsh, ho⟩ := hrel
    have hbz := ho.size
    have hsl := slLen_own hown
    by_cases hr : rest = []
    · subst hr
      obtain ⟨hR2, hpl⟩ := hinv.done
      rw [HR.out] at hR2
      obtain ⟨A, c, rfl, hpn, hcm⟩ := Comes.of_own hown encL_len (by decide) (short_ok hsh)
      have CC := Lib.hid (rright_any A pre.length c pre wr hcm hsh)
      have HC := Lib.hid (And.intro hcm ho)
      have hbe : (bs ([] : List UInt8)).toList.isEmpty = true := by rw [ByteArray.toList_eq, bs_list]; rfl
      obtain ⟨Y, hY⟩ : ∃ Y, bs ([] : List UInt8) = Y := ⟨_, rfl⟩
      rw [hY] at hbe ⊢
      clear hY hinv hown hsh ho hbz hsl hrl hpn hcm hpl
      obtain ⟨n, hn⟩ : ∃ n, pre.length = n := ⟨_, rfl⟩
      have HN := Lib.hid hn
      rw [hn] at CC HC ⊢
      cases hc : checkB pre with
      | true =>
        rw [hc, if_pos rfl] at hR2
        subst hR2
        rw [hc] at CC
        clear hc hn
        go_wp2_with fail
        refine CC.out.mono ?_
        rintro e w2 ⟨rfl, hb2⟩
        have HE := Lib.hid (HQ1.out A n c pre w2 HN.out (HC.out.1.later hb2) (HC.out.2.trans (hb2.mono HC.out.2.size)))
        clear hb2
        go_wp2_with fail
        exact HE.out
      | false =>
        rw [hc, if_neg (by decide)] at hR2
        subst hR2
        rw [hc] at CC
        clear hc hn
        go_wp2_with fail
        refine CC.out.mono ?_
        rintro e w2 ⟨rfl, hb2⟩
        have HE := Lib.hid (HC.out.2.trans (hb2.mono HC.out.2.size))
        clear hb2
        go_wp2_with fail
        exact HQ0.out _ HE.out
    · have hbe := nil_beq rest hr
      obtain ⟨st1, st2⟩ := of_step s pre rest hinv hr
      have hpl : pre.length ≤ s.length := by obtain ⟨f, h1, h2, h3⟩ := hinv; omega
      have C1 : Hid (∀ W, Calls Try.prog 42 #[.string (bs rest), .int .i64 48] W fun e w' => e = .returned (gtV rest (getT rest)) ∧ Below W.heap.size W w') := Lib.hid (fun W => rgtext_any rest W (by omega))
      cases hg : getT rest with
      | none =>
        have hRn : R = none := by rw [← HR.out]; exact st1 hg
        subst hRn
        rw [hg, show gtV rest none = .tuple #[.string ⟨#[]⟩, .string (bs rest), .bool false] from rfl] at C1
        obtain ⟨Y, hY⟩ : ∃ Y, bs rest = Y := ⟨_, rfl⟩
        rw [hY] at C1 hbe ⊢
        have HO := Lib.hid ho
        clear hY hinv hown hsh ho hbz hsl hrl st1 st2 hg hr hpl
        go_wp2_with fail
        refine (C1.out _).mono ?_
        rintro e w1 ⟨rfl, hb1⟩
        have H1 := Lib.hid (later HO.out hb1)
        clear hb1
        go_wp2_with fail
        refine (C1.out _).mono ?_
        rintro e w2 ⟨rfl, hb2⟩
        have H2 := Lib.hid (later H1.out hb2)
        clear hb2
        go_wp2_with fail
        exact HQ0.out _ H2.out
      | some p =>
        obtain ⟨b, r⟩ := p
        obtain ⟨st3, st4⟩ := st2 b r hg
        have l1 := getT_len hg
        rw [hg, show gtV rest (some (b, r)) = .tuple #[.string (bs b), .string (bs r), .bool true] from rfl] at C1
        have C2 : Hid (∀ W, Calls Try.prog 42 #[.string (bs r), .int .i64 48] W fun e w' => e = .returned (gtV r (getT r)) ∧ Below W.heap.size W w') := Lib.hid (fun W => rgtext_any r W (by omega))
        cases hg2 : getT r with
        | none =>
          have hRn : R = none := by rw [← HR.out]; exact st3 hg2
          subst hRn
          rw [hg2, show gtV r none = .tuple #[.string ⟨#[]⟩, .string (bs r), .bool false] from rfl] at C2
          obtain ⟨Y, hY⟩ : ∃ Y, bs rest = Y := ⟨_, rfl⟩
          obtain ⟨Z, hZ⟩ : ∃ Y, bs r = Y := ⟨_, rfl⟩
          obtain ⟨B, hB⟩ : ∃ Y, bs b = Y := ⟨_, rfl⟩
          rw [hY] at C1 hbe ⊢
          rw [hZ] at C1 C2
          rw [hB] at C1
          have HO := Lib.hid ho
          clear hY hZ hB hinv hown hsh ho hbz hsl hrl st1 st2 st3 st4 hg hg2 hr hpl l1
          go_wp2_with fail
          refine (C1.out _).mono ?_
          rintro e w1 ⟨rfl, hb1⟩
          have H1 := Lib.hid (later HO.out hb1)
          clear hb1
          go_wp2_with fail
          refine (C2.out _).mono ?_
          rintro e w2 ⟨rfl, hb2⟩
          have H2 := Lib.hid (later H1.out hb2)
          clear hb2
          go_wp2_with fail
          exact HQ0.out _ H2.out
        | some p =>
          obtain ⟨v, t⟩ := p
          have l2 := getT_len hg2
          have hst := st4 v t hg2
          rw [hg2, show gtV r (some (v, t)) = .tuple #[.string (bs v), .string (bs t), .bool true] from rfl] at C2
          have HST := Lib.hid (And.intro hst (And.intro (show t.length ≤ s.length by omega) (short48 hsh (b := b) (v := v) (by omega) (by omega))))
          obtain ⟨Y, hY⟩ : ∃ Y, bs rest = Y := ⟨_, rfl⟩
          obtain ⟨Z, hZ⟩ : ∃ Y, bs r = Y := ⟨_, rfl⟩
          rw [hY] at C1 hbe ⊢
          rw [hZ] at C1 C2
          have HO := Lib.hid (And.intro ho (And.intro hown (And.intro hsl hpl)))
          clear hY hZ hinv hown hsh ho hbz hsl hrl st1 st2 st3 st4 hg hg2 hr hpl l1 l2 hst
          go_wp2_with fail
          refine (C1.out _).mono ?_
          rintro e w1 ⟨rfl, hb1⟩
          have H1 := Lib.hid (And.intro (later HO.out.1 hb1) (own_later HO.out.2.1 hb1))
          clear hb1
          go_wp2_with fail
          refine (C2.out _).mono ?_
          rintro e w2 ⟨rfl, hb2⟩
          have H2 := Lib.hid (later H1.out.1 hb2)
          have hown2 := own_later H1.out.2 hb2
          clear hb2
          go_wp2_with (at_builtin; go_must (refine wpList_append_one rfl _ _ 22 rfl w.heap.size 38 (.agg #[.string ⟨#[]⟩, .string ⟨#[]⟩]) 2 32 Try.underlying22 elemL rfl (by decide) w2 hown2 rfl _ rfl rfl (one2 rfl rfl) (by have := HO.out.2.2.2; omega) (by have := HO.out.2.2.2; omega) H2.out.size ?_); intro v' w' hown' hb' hz')
          clear hown2
          go_roundw
          case rel =>
            refine ⟨pre ++ [(tx b, tx v)], t, HST.out.1, HST.out.2.1, rfl, ?_, HST.out.2.2, H2.out.trans hb'⟩
            rw [List.length_append, List.length_singleton, List.flatMap_append, List.flatMap_singleton]; exact hown'
          case measure =>
            rw [slLen_own hown', HO.out.2.2.1]
            have := HO.out.2.2.2
            omega
end Go.Proofs.Ytgnifdkoaajboaa.FrW
