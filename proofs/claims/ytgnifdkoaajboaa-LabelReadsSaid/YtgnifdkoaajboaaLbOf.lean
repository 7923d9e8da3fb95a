/-
  label.Of: THE WALK.
-/
import Derived.Test.YtgnifdkoaajboaaLbTk
import Derived.Test.YtgnifdkoaajboaaLabChk
namespace Go.Proofs.Ytgnifdkoaajboaa.FrW
set_option linter.unusedVariables false
open Go.RowKit FrM LabM LbM LabW
theorem elemL : Elem Try.prog 38 (.agg #[.string ⟨#[]⟩, .string ⟨#[]⟩]) 2 32 := by unfold Elem; kernel_rfl
theorem encL_len (x : Lab) : (encL x).length = 2 := rfl
/-- How long a slice is. -/
def slLen : Value → Nat
  | .slice _ n _ => n
  | _ => 0
theorem slLen_own {w : World} {base : Nat} {e : TypeId} {size n : Nat} {v : Value} {xs : List Value} (h : w.ownsRow base e size v n xs) : slLen v = n := by
  rcases h.2 with ⟨rfl, rfl⟩ | ⟨g, cap, cur, rfl, _⟩ <;> rfl
/-- What the labels that are read come to. -/
def LabPost (w : World) (R : Option (List Lab)) (e : Ending) (w' : World) : Prop := match R with
  | none => e = .returned (.tuple #[.slice none 0 0, .bool false]) ∧ Below w.heap.size w w'
  | some l => ∃ A c, e = .returned (.tuple #[.slice A l.length c, .bool true]) ∧ Comes w' 2 encL okL A l.length c l ∧ Below w.heap.size w w'
theorem LabPost.no {w w' : World} (h : Below w.heap.size w w') : LabPost w none (.returned (.tuple #[.slice none 0 0, .bool false])) w' := ⟨rfl, h⟩
theorem LabPost.yes {w w' : World} {A : Option Addr} {n c : Nat} {l : List Lab} (hn : l.length = n) (hc : Comes w' 2 encL okL A n c l) (h : Below w.heap.size w w') : LabPost w (some l) (.returned (.tuple #[.slice A n c, .bool true])) w' := by
  subst hn; exact ⟨A, c, rfl, hc, h⟩
theorem own_ne {w : World} {base g : Nat} {e : TypeId} {size n : Nat} {v : Value} {xs : List Value} (h : w.ownsRow base e size v n xs) (hg : g < base) : v.ownBlock = none ∨ v.ownBlock ≠ some g := by
  cases hv : v.ownBlock with
  | none => exact .inl rfl
  | some k => right; have := (h.lt k hv).1; intro e; injection e with e; omega
/-- What is left to read, behind the labels pre. -/
def OfInv (s : List UInt8) (pre : List Lab) (rest : List UInt8) (bad : Bool) : Prop :=
  if bad then pairs (s.length + 1) s = none ∧ pre.length ≤ s.length + 1 else ∃ f, rest.length < f ∧ pre.length + rest.length ≤ s.length ∧ pairs (s.length + 1) s = (pairs f rest).map (pre ++ ·)
theorem OfInv.mk (s : List UInt8) (pre : List Lab) : (∀ rest, pairs (s.length + 1) s = none → pre.length ≤ s.length + 1 → OfInv s pre rest true) ∧ (∀ rest f, rest.length < f → pre.length + rest.length ≤ s.length → pairs (s.length + 1) s = (pairs f rest).map (pre ++ ·) → OfInv s pre rest false) :=
  ⟨fun rest h1 h2 => ⟨h1, h2⟩, fun rest f h1 h2 h3 => ⟨f, h1, h2, h3⟩⟩
theorem tkB_step (s : List UInt8) (pre : List Lab) (rest : List UInt8) (h : OfInv s pre rest false) (hr : rest ≠ []) :
    OfInv s (pre ++ [(tx (tkB rest false).1, tx (tkB (tkB rest false).2.1 (tkB rest false).2.2).1)]) (tkB (tkB rest false).2.1 (tkB rest false).2.2).2.1 (tkB (tkB rest false).2.1 (tkB rest false).2.2).2.2 ∧ (tkB rest false).1.length ≤ 48 ∧ (tkB (tkB rest false).2.1 (tkB rest false).2.2).1.length ≤ 48 ∧ (tkB rest false).2.1.length ≤ rest.length := by
  obtain ⟨f, h1, h2, h3⟩ := h
  cases f with
  | zero => omega
  | succ f =>
    have HP := OfInv.mk s (pre ++ [(tx (tkB rest false).1, tx (tkB (tkB rest false).2.1 (tkB rest false).2.2).1)]) 
    generalize pairs (s.length + 1) s = P0 at h3 HP
    unfold pairs at h3
    rw [if_neg hr] at h3
    have hpos : 0 < rest.length := List.length_pos_iff.2 hr
    cases hg : getT rest with
    | none =>
      rw [hg] at h3
      have e1 : tkB rest false = ([], rest, true) := by unfold tkB; rw [hg]; rfl
      have e2 : tkB rest true = ([], rest, true) := rfl
      rw [e1] at HP ⊢
      simp only [] at HP ⊢
      rw [e2] at HP ⊢
      exact ⟨HP.1 rest h3 (by rw [List.length_append, List.length_singleton]; omega), Nat.zero_le _, Nat.zero_le _, Nat.le_refl _⟩
    | some p =>
      obtain ⟨b, r⟩ := p
      rw [hg] at h3
      simp only [] at h3
      have e1 : tkB rest false = (b, r, false) := by unfold tkB; rw [hg]; rfl
      rw [e1] at HP ⊢
      simp only [] at HP ⊢
      obtain ⟨g1, g2⟩ := getT_is hg
      have g1 := congrArg List.length g1
      have gp := sm_pos 9 b.length
      simp only [text, small, List.length_append] at g1
      cases hg2 : getT r with
      | none =>
        rw [hg2] at h3
        have e2 : tkB r false = ([], r, true) := by unfold tkB; rw [hg2]; rfl
        rw [e2] at HP ⊢
        exact ⟨HP.1 r h3 (by rw [List.length_append, List.length_singleton]; omega), g2, Nat.zero_le _, by omega⟩
      | some q =>
        obtain ⟨v, t⟩ := q
        rw [hg2] at h3
        simp only [] at h3
        have e2 : tkB r false = (v, t, false) := by unfold tkB; rw [hg2]; rfl
        rw [e2] at HP ⊢
        simp only [] at HP ⊢
        obtain ⟨g3, g4⟩ := getT_is hg2
        have g3 := congrArg List.length g3
        have gp2 := sm_pos 9 v.length
        simp only [text, small, List.length_append] at g3
        refine ⟨HP.2 t f (by omega) ?_ ?_, g2, g4, by omega⟩
        · rw [List.length_append, List.length_singleton]; omega
        · rw [h3]; cases pairs f t <;> simp
theorem OfInv.zero (s : List UInt8) : OfInv s [] s false := ⟨s.length + 1, Nat.lt_succ_self _, by simp, by cases pairs (s.length + 1) s <;> simp⟩
theorem OfInv.bad {s : List UInt8} {pre : List Lab} {rest : List UInt8} (h : OfInv s pre rest true) : ofL s = none ∧ pre.length ≤ s.length + 1 := ⟨by unfold ofL; rw [h.1], h.2⟩
theorem OfInv.done {s : List UInt8} {pre : List Lab} (h : OfInv s pre [] false) : ofL s = (if checkB pre = true then some pre else none) ∧ pre.length ≤ s.length := by
  obtain ⟨f, h1, h2, h3⟩ := h
  refine ⟨?_, by simpa using h2⟩
  cases f with
  | zero => simp at h1
  | succ f =>
    have e : pairs (f + 1) ([] : List UInt8) = some [] := rfl
    unfold ofL
    rw [h3, e]
    simp
theorem bs_nilL : bs [] = ⟨#[]⟩ := rfl
theorem bs_tx (l : List UInt8) : tx l = bs l := rfl
set_option maxRecDepth 20000 in
set_option maxHeartbeats 2000000 in
theorem of_any (s : List UInt8) (w : World) (hs : s.length ≤ 1099511627776) :
    Calls Try.prog 25 #[.string (bs s)] w fun e w' => LabPost w (ofL s) e w' := by
  have hcA : CurAt (w.alloc (.cells #[.string (bs s), .bool false] 55 (0, 0))) w.heap.size s false := heap_alloc_new w _
  have HB := Lib.hid (show Below w.heap.size w (w.alloc (.cells #[.string (bs s), .bool false] 55 (0, 0))) from (Below.refl _ _).alloc (Nat.le_refl _) _)
  have HA := Lib.hid hcA
  obtain ⟨R, hR⟩ : ∃ R, ofL s = R := ⟨_, rfl⟩
  have HR := Lib.hid hR
  rw [hR]
  obtain ⟨Q, hQ⟩ : ∃ Q : Option (List Lab) → Ending → World → Prop, LabPost w = Q := ⟨_, rfl⟩
  have HQ0 : Hid (∀ w', Below w.heap.size w w' → Q none (.returned (.tuple #[.slice none 0 0, .bool false])) w') := Lib.hid (by rw [← hQ]; exact fun w' h => LabPost.no h)
  have HQ1 : Hid (∀ (A : Option Addr) (n c : Nat) (l : List Lab) (w' : World), l.length = n → Comes w' 2 encL okL A n c l → Below w.heap.size w w' → Q (some l) (.returned (.tuple #[.slice A n c, .bool true])) w') := Lib.hid (by rw [← hQ]; exact fun A n c l w' h1 h2 h3 => LabPost.yes h1 h2 h3)
  rw [hQ]
  clear hR hcA hQ
  obtain ⟨X, hX⟩ : ∃ X, bs s = X := ⟨_, rfl⟩
  rw [hX] at HA HB ⊢
  clear hX
  go_enter Try.func25, Try.ntmps25
  go_wp2_with fail
  go_loopw [5] (fun v5 wr => ∃ (pre : List Lab) (rest : List UInt8) (bad : Bool), OfInv s pre rest bad ∧ rest.length ≤ s.length ∧ CurAt wr w.heap.size rest bad ∧ wr.ownsRow (w.heap.size + 1) 38 2 v5 pre.length (pre.flatMap encL) ∧ (∀ x ∈ pre, okL x) ∧ Below w.heap.size w wr ∧ w.heap.size + 1 ≤ wr.heap.size) (fun v5 _ => s.length + 2 - slLen v5)
  case atStart => exact ⟨[], s, false, OfInv.zero s, Nat.le_refl _, HA.out, World.ownsRow_nil _ _ _ _, fun x hx => (by cases hx), HB.out, by simp⟩
  case round =>
    clear HA HB
    obtain ⟨pre, rest, bad, hinv, hrl, hcur, hown, hok, ho, hsz⟩ := hrel
    have c0 := hcur.c0
    have c1 := hcur.c1
    have hsl := slLen_own hown
    cases bad with
    | true =>
      have hRn : R = none := by rw [← HR.out]; exact hinv.bad.1
      subst hRn
      have HO := Lib.hid ho
      clear hinv hcur hown hok ho hsz hsl hrl
      obtain ⟨Y, hY⟩ : ∃ Y, bs rest = Y := ⟨_, rfl⟩
      rw [hY] at c0
      clear hY
      go_wp2_with fail
      exact HQ0.out _ HO.out
    | false =>
      by_cases hr : rest = []
      · subst hr
        have hbe : (bs ([] : List UInt8)).toList.isEmpty = true := by rw [ByteArray.toList_eq, bs_list]; rfl
        obtain ⟨Y, hY⟩ : ∃ Y, bs ([] : List UInt8) = Y := ⟨_, rfl⟩
        rw [hY] at c0 hbe
        clear hY
        obtain ⟨hR2, hpl⟩ := hinv.done
        rw [HR.out] at hR2
        obtain ⟨A, c, rfl, hpn, hcm⟩ := Comes.of_own hown encL_len (by decide) hok
        have CC := Lib.hid (check_any A pre.length c pre wr hcm)
        have HC := Lib.hid (And.intro hcm ho)
        clear hinv hcur hown hok ho hsz hsl hrl hpn hcm hpl
        obtain ⟨n, hn⟩ : ∃ n, pre.length = n := ⟨_, rfl⟩
        have HN := Lib.hid hn
        rw [hn] at CC HC ⊢
        cases hc : checkB pre with
        | true =>
          rw [hc, if_pos rfl] at hR2
          subst hR2
          rw [hc, show errN true 2 = 0 from rfl] at CC
          clear hc hn
          go_wp2_with fail
          refine CC.out.mono ?_
          rintro e w2 ⟨rfl, hb2⟩
          have HE := Lib.hid (HQ1.out A n c pre w2 HN.out (HC.out.1.later hb2) (HC.out.2.trans (hb2.mono HC.out.2.size)))
          clear hb2
          go_wp2_with fail
          exact HE.out
        | false =>
          rw [hc, if_neg (by decide)] at hR2
          subst hR2
          rw [hc, show errN false 2 = 2 from rfl] at CC
          clear hc hn
          go_wp2_with fail
          refine CC.out.mono ?_
          rintro e w2 ⟨rfl, hb2⟩
          have HE := Lib.hid (HC.out.2.trans (hb2.mono HC.out.2.size))
          clear hb2
          go_wp2_with fail
          exact HQ0.out _ HE.out
      · have hbe : (bs rest).toList.isEmpty = false := by
          rw [ByteArray.toList_eq, bs_list]; cases rest with
          | nil => exact absurd rfl hr
          | cons a b => rfl
        have hstep := tkB_step s pre rest hinv hr
        have hpl : pre.length ≤ s.length := by obtain ⟨f, h1, h2, h3⟩ := hinv; omega
        have C1 := Lib.hid (ctext_any w.heap.size rest false wr hcur (by omega))
        obtain ⟨⟨b1, r1, bad1⟩, hT1⟩ : ∃ T, tkB rest false = T := ⟨_, rfl⟩
        rw [hT1] at hstep C1
        simp only [] at hstep C1
        obtain ⟨⟨b2, r2, bad2⟩, hT2⟩ : ∃ T, tkB r1 bad1 = T := ⟨_, rfl⟩
        have C2 : Hid (∀ W, CurAt W w.heap.size r1 bad1 → Calls Try.prog 41 #[.pointer (some ⟨w.heap.size, 0, none⟩), .int .i64 48] W fun e w' => e = .returned (.string (bs b2)) ∧ CurAt w' w.heap.size r2 bad2 ∧ W.grownBy w' (some w.heap.size)) := Lib.hid (fun W h => by
          have h2 := ctext_any w.heap.size r1 bad1 W h (by omega)
          rw [hT2] at h2; exact h2)
        rw [hT2] at hstep
        simp only [] at hstep
        have hr2 : r2.length ≤ r1.length := by
          have h := congrArg (fun T => T.2.1.length) hT2
          simp only [] at h
          rw [← h]
          unfold tkB
          cases bad1 with
          | true => exact Nat.le_refl _
          | false =>
            cases hg : getT r1 with
            | none => exact Nat.le_refl _
            | some p =>
              obtain ⟨b, r⟩ := p
              have := congrArg List.length (getT_is hg).1
              rw [List.length_append] at this
              show r.length ≤ _
              omega
        have HST := Lib.hid (And.intro hstep.1 (show r2.length ≤ s.length from by omega))
        have hok2 : Hid (∀ x ∈ pre ++ [(bs b1, bs b2)], okL x) := Lib.hid (by
          intro x hx
          rcases List.mem_append.1 hx with hx | hx
          · exact hok x hx
          · rw [List.mem_singleton] at hx
            subst hx
            exact ⟨by rw [bs_size]; unfold maxLen; omega, by rw [bs_size]; unfold maxLen; omega⟩)
        have HO := Lib.hid (And.intro ho (And.intro hsz (And.intro hown (And.intro hsl hpl))))
        obtain ⟨Y, hY⟩ : ∃ Y, bs rest = Y := ⟨_, rfl⟩
        rw [hY] at c0 hbe
        clear hinv hcur hown hok ho hsz hsl hrl hstep hT1 hT2 hr2 hY hr hpl
        go_wp2_with fail
        refine C1.out.mono ?_
        rintro e w1 ⟨rfl, hcur1, hg1⟩
        have H1 := Lib.hid (And.intro hcur1 hg1)
        clear hcur1 hg1 C1 c0 c1
        go_wp2_with fail
        refine (C2.out w1 H1.out.1).mono ?_
        rintro e w2 ⟨rfl, hcur2, hg2⟩
        have hg := grown_trans H1.out.2 hg2
        have hown2 := HO.out.2.2.1.kept hg (own_ne HO.out.2.2.1 (Nat.lt_succ_self _))
        have HW2 := Lib.hid (And.intro hcur2 (And.intro (HO.out.1.trans (grown_below hg (Nat.le_refl _) HO.out.1.size)) (show w.heap.size + 1 ≤ w2.heap.size from Nat.le_trans HO.out.2.1 hg.size)))
        clear hcur2 hg2 hg H1 C2
        go_wp2_with (at_builtin; go_must (refine wpList_append_one rfl _ _ 22 rfl (w.heap.size + 1) 38 (.agg #[.string ⟨#[]⟩, .string ⟨#[]⟩]) 2 32 Try.underlying22 elemL rfl (by decide) w2 hown2 rfl _ rfl rfl (one2 rfl rfl) (by have := HO.out.2.2.2.2; omega) (by have := HO.out.2.2.2.2; omega) HW2.out.2.2 ?_); intro v' w' hown' hb' hz')
        clear hown2
        go_roundw
        case rel =>
          refine ⟨pre ++ [(bs b1, bs b2)], r2, bad2, HST.out.1, HST.out.2, ?_, ?_, hok2.out, HW2.out.2.1.trans (hb'.mono (Nat.le_succ _)), by have := HW2.out.2.2; omega⟩
          · exact (hb'.block _ (Nat.lt_succ_self _)).trans HW2.out.1
          · rw [List.length_append, List.length_singleton, List.flatMap_append, List.flatMap_singleton]; exact hown'
        case measure =>
          rw [slLen_own hown', HO.out.2.2.2.1]
          have := HO.out.2.2.2.2
          omega
end Go.Proofs.Ytgnifdkoaajboaa.FrW
