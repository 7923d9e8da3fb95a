/-
  label.Read: THE WALK.
-/
import Derived.Test.YtgnifdkoaajboaaLbQuo
import Derived.Test.YtgnifdkoaajboaaLbPair
import Derived.Test.YtgnifdkoaajboaaLbShow
namespace Go.Proofs.Ytgnifdkoaajboaa.FrW
set_option linter.unusedVariables false
open Go.RowKit FrM LabM LbM LabW
theorem wd_len : ∀ (f : Nat) (e : UInt8) (l v r : List UInt8), l.length ≤ f → wd e l = some (v, r) → v.length + r.length < l.length
  | _, _, [], _, _, _, h => by cases h
  | _, e, [c], v, r, _, h => by
    unfold wd at h
    split at h
    · injection h with h; injection h with h1 h2; subst h1 h2; simp
    · cases h
  | 0, _, _ :: _ :: _, _, _, hf, _ => by simp at hf
  | f + 1, e, c :: d :: t, v, r, hf, h => by
    unfold wd at h
    simp only [List.length_cons] at hf
    split at h
    · injection h with h; injection h with h1 h2; subst h1 h2; simp
    · split at h
      · cases hr : wd e t with
        | none => rw [hr] at h; cases h
        | some p =>
          obtain ⟨a, b⟩ := p
          rw [hr] at h
          injection h with h; injection h with h1 h2; subst h1 h2
          have := wd_len f e t a b (by omega) hr
          simp only [List.length_cons]; omega
      · cases hr : wd e (d :: t) with
        | none => rw [hr] at h; cases h
        | some p =>
          obtain ⟨a, b⟩ := p
          rw [hr] at h
          injection h with h; injection h with h1 h2; subst h1 h2
          have := wd_len f e (d :: t) a b (by simp only [List.length_cons]; omega) hr
          simp only [List.length_cons] at this ⊢; omega
/-- What is left to read, behind the labels pre. -/
def RdInv (s : List UInt8) (pre : List Lab) (rest : List UInt8) : Prop := pre.length ≤ 7 ∧ labRd 7 s = (labRd (7 - pre.length) rest).map (pre ++ ·)
theorem RdInv.zero (s : List UInt8) : RdInv s [] s := ⟨by simp, by show _ = (labRd 7 s).map _; cases labRd 7 s <;> simp⟩
theorem RdInv.fin {s : List UInt8} {pre : List Lab} {rest : List UInt8} (h : RdInv s pre rest) (h2 : pre.length = 7 ∨ rest.length ≤ 1) : labRd 7 s = some pre := by
  have e : labRd (7 - pre.length) rest = some [] := by
    rcases h2 with h2 | h2
    · rw [h2]; rfl
    · cases hk : 7 - pre.length with
      | zero => rfl
      | succ k => unfold labRd; rw [if_pos h2]
  rw [h.2, e]; simp
theorem RdInv.step {s : List UInt8} {pre : List Lab} {rest : List UInt8} (h : RdInv s pre rest) (h1 : pre.length ≤ 6) (h2 : 1 < rest.length) :
    (ct 61 (rest.drop 1) = none → labRd 7 s = none) ∧ (∀ n v, ct 61 (rest.drop 1) = some (n, v) → (wd 34 (v.drop 1) = none → labRd 7 s = none) ∧ ∀ x b, wd 34 (v.drop 1) = some (x, b) → RdInv s (pre ++ [(tx n, tx x)]) b) := by
  obtain ⟨g1, g2⟩ := h
  obtain ⟨k, hk⟩ : ∃ k, 7 - pre.length = k + 1 := ⟨6 - pre.length, by omega⟩
  have e : labRd (7 - pre.length) rest = match ct 61 (rest.drop 1) with
    | none => none
    | some (n, v) => match wd 34 (v.drop 1) with
      | none => none
      | some (x, b) => (labRd k b).map ((tx n, tx x) :: ·) := by
    rw [hk, labRd, if_neg (by omega)]
    rfl
  refine ⟨fun hc => ?_, fun n v hc => ⟨fun hw => ?_, fun x b hw => ⟨?_, ?_⟩⟩⟩
  · rw [g2, e, hc]; rfl
  · rw [g2, e, hc]; simp only []; rw [hw]; rfl
  · rw [List.length_append, List.length_singleton]; omega
  · rw [g2, e, hc]; simp only []; rw [hw]; simp only []
    rw [show 7 - (pre ++ [(tx n, tx x)]).length = k by rw [List.length_append, List.length_singleton]; omega]
    cases labRd k b <;> simp
theorem short_of {l : List Lab} (h : checkB l = true) : shortL l := fun x hx => by
  have := check_48 h x hx
  simp at this
  exact ⟨by omega, by omega⟩
set_option maxRecDepth 20000 in
set_option maxHeartbeats 4000000 in
theorem read_any (s : List UInt8) (w : World) (hs : s.length ≤ 1099511627776) :
    Calls Try.prog 27 #[.string (bs s)] w fun e w' => LabPost w (readA s) e w' := by
  obtain ⟨R, hR⟩ : ∃ R, readA s = R := ⟨_, rfl⟩
  have hR0 := hR
  unfold readA at hR
  have HR := Lib.hid hR
  rw [hR0]
  obtain ⟨Q, hQ⟩ : ∃ Q : Option (List Lab) → Ending → World → Prop, LabPost w = Q := ⟨_, rfl⟩
  have HQ0 : Hid (∀ w', Below w.heap.size w w' → Q none (.returned (.tuple #[.slice none 0 0, .bool false])) w') := Lib.hid (by rw [← hQ]; exact fun w' h => LabPost.no h)
  have HQ1 : Hid (∀ (A : Option Addr) (n c : Nat) (l : List Lab) (w' : World), l.length = n → Comes w' 2 encL okL A n c l → Below w.heap.size w w' → Q (some l) (.returned (.tuple #[.slice A n c, .bool true])) w') := Lib.hid (by rw [← hQ]; exact fun A n c l w' h1 h2 h3 => LabPost.yes h1 h2 h3)
  rw [hQ]
  clear hR hR0 hQ
  have HBQ := Lib.hid (fun l => bs_beq l s)
  obtain ⟨X, hX⟩ : ∃ X, bs s = X := ⟨_, rfl⟩
  have HX := Lib.hid hX
  rw [hX] at HBQ ⊢
  clear hX
  go_enter Try.func27, Try.ntmps27
  go_wp2_with fail
  go_loopw [4, 5] (fun v4 v5 wr => ∃ (pre : List Lab) (rest : List UInt8), RdInv s pre rest ∧ rest.length ≤ s.length ∧ v5 = .string (bs rest) ∧ wr.ownsRow w.heap.size 38 2 v4 pre.length (pre.flatMap encL) ∧ (∀ x ∈ pre, okL x) ∧ Below w.heap.size w wr) (fun v4 _ _ => 8 - slLen v4)
  case atStart => exact ⟨[], s, RdInv.zero s, Nat.le_refl _, by rw [HX.out], World.ownsRow_nil _ _ _ _, fun x hx => (by cases hx), Below.refl _ _⟩
  case round =>
    obtain ⟨pre, rest, hinv, hrl, rfl, hown, hok, ho⟩ := hrel
    have hz := bs_size rest
    obtain ⟨A, c, rfl, hpn, hcm⟩ := Comes.of_own hown encL_len (by decide) hok
    have hp7 := hinv.1
    have hbz := ho.size
    by_cases hgo : pre.length ≤ 6 ∧ 1 < rest.length
    · obtain ⟨h6, h1⟩ := hgo
      obtain ⟨st1, st2⟩ := hinv.step h6 h1
      have hsl := slice_from (P := Try.prog) Try.underlying9 (bs rest) 1 1 rfl (by omega)
      rw [bs_extract, hz, List.take_of_length_le (by rw [List.length_drop]; omega)] at hsl
      have CC := Lib.hid (cut_any 61 (rest.drop 1) wr (by rw [List.length_drop]; omega))
      unfold cutV at CC
      have HW := Lib.hid (And.intro ho (And.intro hown (And.intro hok (And.intro hrl hs))))
      obtain ⟨n, hn⟩ : ∃ n, pre.length = n := ⟨_, rfl⟩
      have HN := Lib.hid hn
      rw [hn] at h6 hp7 HW ⊢
      obtain ⟨z, hzz⟩ : ∃ z, rest.length = z := ⟨_, rfl⟩
      have HZ := Lib.hid hzz
      rw [hzz] at hz h1 HW
      have r1 : (z : Int) > 1 := by omega
      have n6 : (n : Int) ≤ 6 := by omega
      cases hct : ct 61 (rest.drop 1) with
      | none =>
        rw [hct] at CC
        simp only [] at CC
        have hRn : R = none := by rw [← HR.out, st1 hct]
        subst hRn
        obtain ⟨Y, hY⟩ : ∃ Y, bs rest = Y := ⟨_, rfl⟩
        obtain ⟨Z, hZ⟩ : ∃ Z, bs (rest.drop 1) = Z := ⟨_, rfl⟩
        rw [hY] at hsl hz ⊢
        rw [hZ] at hsl CC
        have HE := Lib.hid ho
        clear hY hZ hct st1 st2 hinv hrl hown hok ho hcm hpn hn hzz HW hs
        go_wp2_with fail
        refine CC.out.mono ?_
        rintro e w1 ⟨rfl, hb1⟩
        have HE2 := Lib.hid (HE.out.trans (hb1.mono HE.out.size))
        clear hb1
        go_wp2_with fail
        exact HQ0.out _ HE2.out
      | some p =>
        obtain ⟨nm, vl⟩ := p
        rw [hct] at CC
        simp only [] at CC
        obtain ⟨st3, st4⟩ := st2 nm vl hct
        have hlen1 : nm.length + vl.length < z := by
          have := congrArg List.length (ct_some _ _ _ _ hct).2
          simp at this; omega
        have CQ := Lib.hid (fun W => quoted_any vl W (by omega))
        cases hwd : wd 34 (vl.drop 1) with
        | none =>
          rw [hwd] at CQ
          unfold qtV at CQ
          have hRn : R = none := by rw [← HR.out, st3 hwd]
          subst hRn
          obtain ⟨Y, hY⟩ : ∃ Y, bs rest = Y := ⟨_, rfl⟩
          obtain ⟨Z, hZ⟩ : ∃ Z, bs (rest.drop 1) = Z := ⟨_, rfl⟩
          obtain ⟨V, hV⟩ : ∃ V, bs vl = V := ⟨_, rfl⟩
          obtain ⟨M, hM⟩ : ∃ M, bs nm = M := ⟨_, rfl⟩
          rw [hY] at hsl hz ⊢
          rw [hZ] at hsl CC
          rw [hV] at CQ
          rw [hV, hM] at CC
          have HE := Lib.hid ho
          clear hY hZ hV hM hct hwd st1 st2 st3 st4 hinv hrl hown hok ho hcm hpn hn hzz HW hlen1 hs
          go_wp2_with fail
          refine CC.out.mono ?_
          rintro e w1 ⟨rfl, hb1⟩
          have HE1 := Lib.hid (HE.out.trans (hb1.mono HE.out.size))
          clear hb1
          go_wp2_with fail
          refine (CQ.out w1).mono ?_
          rintro e w2 ⟨rfl, hb2⟩
          have HE2 := Lib.hid (HE1.out.trans (hb2.mono HE1.out.size))
          clear hb2
          go_wp2_with fail
          exact HQ0.out _ HE2.out
        | some pq =>
          obtain ⟨x, b⟩ := pq
          rw [hwd] at CQ
          unfold qtV at CQ
          have hst := st4 x b hwd
          have hlen2 := wd_len _ _ _ _ _ (Nat.le_refl _) hwd
          rw [List.length_drop] at hlen2
          have HST := Lib.hid (And.intro hst (show b.length ≤ s.length from by omega))
          have hok2 : Hid (∀ y ∈ pre ++ [(bs nm, bs x)], okL y) := Lib.hid (by
            intro y hy
            rcases List.mem_append.1 hy with hy | hy
            · exact hok y hy
            · rw [List.mem_singleton] at hy
              subst hy
              exact ⟨by rw [bs_size]; unfold maxLen; omega, by rw [bs_size]; unfold maxLen; omega⟩)
          obtain ⟨Y, hY⟩ : ∃ Y, bs rest = Y := ⟨_, rfl⟩
          obtain ⟨Z, hZ⟩ : ∃ Z, bs (rest.drop 1) = Z := ⟨_, rfl⟩
          obtain ⟨V, hV⟩ : ∃ V, bs vl = V := ⟨_, rfl⟩
          rw [hY] at hsl hz ⊢
          rw [hZ] at hsl CC
          rw [hV] at CQ CC
          have HE := Lib.hid ho
          clear hY hZ hV hct hwd st1 st2 st3 st4 hinv hrl hown hok ho hcm hpn hn hzz hlen1 hlen2 hst hs
          go_wp2_with fail
          refine CC.out.mono ?_
          rintro e w1 ⟨rfl, hb1⟩
          have HE1 := Lib.hid (And.intro (HE.out.trans (hb1.mono HE.out.size)) (own_later HW.out.2.1 hb1))
          clear hb1
          go_wp2_with fail
          refine (CQ.out w1).mono ?_
          rintro e w2 ⟨rfl, hb2⟩
          have HE2 := Lib.hid (HE1.out.1.trans (hb2.mono HE1.out.1.size))
          have hown2 := own_later HE1.out.2 hb2
          clear hb2
          go_wp2_with (at_builtin; go_must (refine wpList_append_one rfl _ _ 22 rfl w.heap.size 38 (.agg #[.string ⟨#[]⟩, .string ⟨#[]⟩]) 2 32 Try.underlying22 elemL rfl (by decide) w2 hown2 rfl _ rfl rfl (one2 rfl rfl) (by omega) (by omega) HE2.out.size ?_); intro v' w' hown' hb' hz')
          clear hown2
          go_roundw
          case rel =>
            refine ⟨pre ++ [(bs nm, bs x)], b, HST.out.1, HST.out.2, rfl, ?_, hok2.out, HE2.out.trans hb'⟩
            rw [List.length_append, List.length_singleton, List.flatMap_append, List.flatMap_singleton, HN.out]; exact hown'
          case measure =>
            rw [slLen_own hown']
            simp only [slLen]; omega
    · have hfin := hinv.fin (by omega)
      have hR2 := HR.out
      rw [hfin] at hR2
      simp only [] at hR2
      have CK := Lib.hid (check_any A pre.length c pre wr hcm)
      have CS := Lib.hid (fun W (hb : Below wr.heap.size wr W) (hck : checkB pre = true) => show_any A pre.length c pre W (hcm.later hb) (by omega) (short_of hck))
      have HB1 := Lib.hid (HBQ.out (showL pre))
      have HC := Lib.hid (And.intro hcm ho)
      obtain ⟨n, hn⟩ : ∃ n, pre.length = n := ⟨_, rfl⟩
      have HN := Lib.hid hn
      rw [hn] at CK CS HC hgo hp7 ⊢
      obtain ⟨z, hzz⟩ : ∃ z, rest.length = z := ⟨_, rfl⟩
      rw [hzz] at hz hgo
      have hcase : (n : Int) > 6 ∨ ((n : Int) ≤ 6 ∧ ¬ (z : Int) > 1) := by omega
      obtain ⟨Y, hY⟩ : ∃ Y, bs rest = Y := ⟨_, rfl⟩
      rw [hY] at hz ⊢
      clear hY hgo hfin hinv hrl hown hok ho hcm hpn hn hzz hs
      rcases hcase with n6 | ⟨n6, z1⟩
      all_goals (
        cases hck : checkB pre with
        | false =>
          rw [hck, if_neg (by simp)] at hR2
          have hR3 : R = none := hR2.symm
          subst hR3
          rw [hck, show errN false 2 = 2 from rfl] at CK
          clear hck hR2 CS HB1
          go_wp2_with fail
          refine CK.out.mono ?_
          rintro e w2 ⟨rfl, hb2⟩
          have HE := Lib.hid (HC.out.2.trans (hb2.mono HC.out.2.size))
          clear hb2
          go_wp2_with fail
          exact HQ0.out _ HE.out
        | true =>
          rw [hck, show errN true 2 = 0 from rfl] at CK
          have CS2 := Lib.hid (fun W hb => CS.out W hb hck)
          by_cases hsh : showL pre = s
          · rw [if_pos ⟨hck, hsh⟩] at hR2
            have hR3 : R = some pre := hR2.symm
            subst hR3
            have hb1 := HB1.out
            rw [decide_eq_true hsh] at hb1
            obtain ⟨S, hS⟩ : ∃ S, bs (showL pre) = S := ⟨_, rfl⟩
            rw [hS] at hb1 CS2
            clear hck hR2 CS HB1 hsh hS
            go_wp2_with fail
            refine CK.out.mono ?_
            rintro e w2 ⟨rfl, hb2⟩
            have H2 := Lib.hid hb2
            clear hb2
            go_wp2_with fail
            refine (CS2.out w2 H2.out).mono ?_
            rintro e w3 ⟨rfl, hb3⟩
            have HE := Lib.hid (HQ1.out A n c pre w3 HN.out (HC.out.1.later (later H2.out hb3)) (HC.out.2.trans ((later H2.out hb3).mono HC.out.2.size)))
            clear hb3
            go_wp2_with fail
            exact HE.out
          · rw [if_neg (fun h => hsh h.2)] at hR2
            have hR3 : R = none := hR2.symm
            subst hR3
            have hb1 := HB1.out
            rw [decide_eq_false hsh] at hb1
            obtain ⟨S, hS⟩ : ∃ S, bs (showL pre) = S := ⟨_, rfl⟩
            rw [hS] at hb1 CS2
            clear hck hR2 CS HB1 hsh hS
            go_wp2_with fail
            refine CK.out.mono ?_
            rintro e w2 ⟨rfl, hb2⟩
            have H2 := Lib.hid hb2
            clear hb2
            go_wp2_with fail
            refine (CS2.out w2 H2.out).mono ?_
            rintro e w3 ⟨rfl, hb3⟩
            have HE := Lib.hid (HQ0.out w3 (HC.out.2.trans ((later H2.out hb3).mono HC.out.2.size)))
            clear hb3
            go_wp2_with fail
            exact HE.out)
end Go.Proofs.Ytgnifdkoaajboaa.FrW
