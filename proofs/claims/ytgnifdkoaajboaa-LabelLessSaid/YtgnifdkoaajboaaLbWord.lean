/-
  alluviumref06.word: THE WALK.
-/
import Derived.Test.YtgnifdkoaajboaaLbQuo
import Derived.Test.YtgnifdkoaajboaaLbRefSh
import Derived.BigRegion
namespace Go.Proofs.Ytgnifdkoaajboaa.FrW
set_option linter.unusedVariables false
open Go.RowKit FrM LabM LbM LabW
theorem wde_at (e : UInt8) (he : e ≠ 92) (l : List UInt8) (i : Nat) (h : i < l.length) : (l[i] = e → wd e (l.drop i) = some ([], l.drop (i + 1))) ∧ (l[i] ≠ e → l[i] ≠ 92 → wd e (l.drop i) = (wd e (l.drop (i + 1))).map fun p => (l[i] :: p.1, p.2)) ∧ (l[i] = 92 → i + 1 = l.length → wd e (l.drop i) = none) ∧ (∀ h2 : i + 1 < l.length, l[i] = 92 → wd e (l.drop i) = (wd e (l.drop (i + 1 + 1))).map fun p => (l[i + 1] :: p.1, p.2)) := by
  have e1 := List.drop_eq_getElem_cons h
  refine ⟨fun h1 => ?_, fun h1 h2 => ?_, fun h1 h2 => ?_, fun h2 h1 => ?_⟩
  · rw [e1, h1, wd_end]
  · rw [e1, wd_cons e _ _ h1 h2]
  · rw [e1, h1, h2, List.drop_of_length_le (Nat.le_refl _)]
    unfold wd
    rw [if_neg (fun h => he h.symm)]
  · rw [e1, h1, List.drop_eq_getElem_cons h2, wd_back e _ _ (fun h => he h.symm)]
theorem take_one_drop (l : List UInt8) (i : Nat) (h : i < l.length) : (l.drop i).take 1 = [l[i]] := by
  rw [List.drop_eq_getElem_cons h]; rfl
set_option maxRecDepth 20000 in
set_option maxHeartbeats 4000000 in
theorem rword_any (d : UInt8) (x : Int) (hx : (d.toNat : Int) = x) (he : d ≠ 92) (l : List UInt8) (w : World) (hl : l.length ≤ 1099511627776) :
    Calls Try.prog 45 #[.string (bs l), .int .u8 x] w fun e w' => e = .returned (qtV (wd d l)) ∧ Below w.heap.size w w' := by
  obtain ⟨R, hR⟩ : ∃ R, wd d l = R := ⟨_, rfl⟩
  have HR := Lib.hid hR
  rw [hR]
  clear hR
  have hz := bs_size l
  have HSL := Lib.hid (fun (i : Nat) (h : i + 1 ≤ l.length) => show ∀ w, (Instr.slice 9 (.string (bs l)) (some (.int .i64 ((i : Int) + 1))) none none).run Try.prog w = .ok (.string (bs (l.drop (i + 1)))) w from by
    have hs2 := slice_from (P := Try.prog) Try.underlying9 (bs l) ((i : Int) + 1) (i + 1) (by omega) (by rw [bs_size]; omega)
    rw [bs_extract, bs_size, List.take_of_length_le (by rw [List.length_drop]; omega)] at hs2
    exact hs2)
  have HSM := Lib.hid (fun (i : Nat) (n : Int) (hn : n = i) (h : i < l.length) => show ∀ w, (Instr.slice 9 (.string (bs l)) (some (.int .i64 n)) (some (.int .i64 (n + 1))) none).run Try.prog w = .ok (.string (bs [l[i]])) w from by
    have hs2 := slice_mid (P := Try.prog) Try.underlying9 (bs l) n (n + 1) i (i + 1) hn (by omega) (by omega) (by rw [bs_size]; omega)
    rw [bs_extract, show i + 1 - i = 1 by omega, take_one_drop l i h] at hs2
    exact hs2)
  obtain ⟨X, hX⟩ : ∃ X, bs l = X := ⟨_, rfl⟩
  have HG : Hid (∀ (i : Nat) (h : i < X.size) (h2 : i < l.length), X[i]'h = l[i]'h2) := Lib.hid (by subst hX; exact fun i h h2 => rfl)
  rw [hX] at hz HSL HSM ⊢
  have HZ := Lib.hid hz
  obtain ⟨q, hq⟩ : ∃ q, l.length = q := ⟨_, rfl⟩
  have HQ := Lib.hid hq
  rw [hq] at hz hl
  have HD := Lib.hid (And.intro hx he)
  clear hX hq hx he
  go_enter Try.func45, Try.ntmps45
  go_wp2_with fail
  go_loopw [7, 8] (fun v7 v8 wr => ∃ (i : Nat) (pre : List UInt8), i ≤ q + 1 ∧ v8 = .int .i64 i ∧ v7 = .string (bs pre) ∧ pre.length ≤ i ∧ R = pth pre (wd d (l.drop i)) ∧ Below w.heap.size w wr) (fun _ v8 _ => q + 1 - (intOf v8).toNat)
  case atStart => exact ⟨0, [], by omega, rfl, rfl, Nat.le_refl _, by rw [pth_nil]; exact HR.out.symm, Below.refl _ _⟩
  case round =>
    obtain ⟨i, pre, hi2, rfl, rfl, hpl, hr, ho⟩ := hrel
    have HO := Lib.hid (And.intro ho (And.intro hpl hr))
    by_cases hlt : i < q
    · have hil : i < l.length := by have := HQ.out; omega
      have hg := HG.out i (by have := HZ.out; omega) hil
      obtain ⟨w34, wel, wbn, wb⟩ := wde_at d HD.out.2 l i hil
      have hsm := HSM.out i (i : Int) rfl hil
      obtain ⟨y, hy⟩ : ∃ y, l[i] = y := ⟨_, rfl⟩
      rw [hy] at hg w34 wel wbn wb hsm
      obtain ⟨z, hzy⟩ : ∃ z, y.toNat = z := ⟨_, rfl⟩
      have hgz : X[i].toNat = z := by rw [hg]; exact hzy
      have y34 : y = d ↔ (z : Int) = x := by rw [← hzy, ← HD.out.1]; rw [← UInt8.toNat_inj]; omega
      have y92 : y = 92 ↔ z = 92 := by rw [← hzy]; exact UInt8.toNat_inj.symm
      have j0 : (0 : Int) ≤ (i : Int) := by omega
      have j1 : (i : Int) < (q : Int) := by omega
      have i10 : (0 : Int) ≤ (i : Int) + 1 := by omega
      have i1q : (i : Int) + 1 ≤ (q : Int) := by omega
      by_cases h34 : (z : Int) = x
      · have hsl := HSL.out i (by omega)
        have hRs : R = some (pre, l.drop (i + 1)) := by rw [hr, w34 (y34.2 h34)]; simp [pth]
        subst hRs
        have hd : ((z : Int) == x) = true := by simp; exact h34
        obtain ⟨Y, hY⟩ : ∃ Y, bs pre = Y := ⟨_, rfl⟩
        obtain ⟨Z, hZ⟩ : ∃ Z, bs (l.drop (i + 1)) = Z := ⟨_, rfl⟩
        have HQV : Hid (qtV (some (pre, l.drop (i + 1))) = .tuple #[.string Y, .string Z, .bool true]) := Lib.hid (by rw [← hY, ← hZ]; rfl)
        rw [hZ] at hsl
        rw [hY]
        clear hY hZ w34 wel wbn wb hy hzy y34 y92 hg h34 hsm hil ho hpl hr
        go_wp2_with fail
        go_region
        go_wp2_with fail
        go_ret3
        exact ⟨by rw [HQV.out]; rfl, HO.out.1.trans ⟨rfl, rfl, rfl, Nat.le_refl _, fun _ _ => rfl⟩⟩
      · have hd : ((z : Int) == x) = false := by simp; exact h34
        have hn34 : y ≠ d := fun e => h34 (y34.1 e)
        by_cases h92 : z = 92
        · have hd2 : ((z : Int) == 92) = true := by simp; omega
          by_cases hlt2 : i + 1 < q
          · have hil2 : i + 1 < l.length := by have := HQ.out; omega
            have hw := wb hil2 (y92.2 h92)
            have hsm2 := HSM.out (i + 1) ((i : Int) + 1) (by omega) hil2
            obtain ⟨y2, hy2⟩ : ∃ y2, l[i + 1] = y2 := ⟨_, rfl⟩
            rw [hy2] at hw hsm2
            have hRn : R = pth (pre ++ [y2]) (wd d (l.drop (i + 1 + 1))) := by rw [hr, hw, pth_cons]
            have j2 : (0 : Int) ≤ (i : Int) + 1 := by omega
            have j3 : (i : Int) + 1 < (q : Int) := by omega
            obtain ⟨T0, hT0⟩ : ∃ M, bs pre = M := ⟨_, rfl⟩
            obtain ⟨T2, hT2⟩ : ∃ M, bs (pre ++ [y2]) = M := ⟨_, rfl⟩
            obtain ⟨Y, hY⟩ : ∃ M, bs [y2] = M := ⟨_, rfl⟩
            have ha2 := sadd pre [y2] T0 Y T2 hT0 hY hT2 (by simp only [List.length_cons, List.length_nil]; omega)
            rw [hY] at hsm2
            rw [hT0]
            have HN := Lib.hid (And.intro hRn (And.intro hpl (And.intro ho hT2)))
            clear hY hT0 hT2 w34 wel wbn wb hy hzy y34 y92 hg h34 hsm hil ho hpl hr hw hRn hy2 h92 hn34
            go_wp2_with fail
            go_roundw
            case rel => exact ⟨i + 1 + 1, pre ++ [y2], by omega, by go_num, by rw [HN.out.2.2.2], by rw [List.length_append, List.length_singleton]; have := HN.out.2.1; omega, HN.out.1, HN.out.2.2.1⟩
            case measure => simp [intOf]; omega
          · have hRn : R = none := by
              rw [hr, wbn (y92.2 h92) (by have := HQ.out; omega)]; rfl
            have hR2 : R = pth pre (wd d (l.drop (i + 1 + 1))) := by
              rw [hRn, List.drop_of_length_le (by have := HQ.out; omega)]; rfl
            have HN := Lib.hid (And.intro hR2 (And.intro hpl ho))
            have j3 : ¬ (i : Int) + 1 < (q : Int) := by omega
            clear w34 wel wbn wb hy hzy y34 y92 hg h34 hsm hil ho hpl hr hRn hR2 h92 hn34
            go_wp2_with fail
            go_roundw
            case rel => exact ⟨i + 1 + 1, pre, by omega, by go_num, rfl, by have := HN.out.2.1; omega, HN.out.1, HN.out.2.2⟩
            case measure => simp [intOf]; omega
        · have hd2 : ((z : Int) == 92) = false := by simp; omega
          have hw := wel hn34 (fun e => h92 (y92.1 e))
          have hRn : R = pth (pre ++ [y]) (wd d (l.drop (i + 1))) := by rw [hr, hw, pth_cons]
          obtain ⟨T0, hT0⟩ : ∃ M, bs pre = M := ⟨_, rfl⟩
          obtain ⟨T2, hT2⟩ : ∃ M, bs (pre ++ [y]) = M := ⟨_, rfl⟩
          obtain ⟨Y, hY⟩ : ∃ M, bs [y] = M := ⟨_, rfl⟩
          have ha2 := sadd pre [y] T0 Y T2 hT0 hY hT2 (by simp only [List.length_cons, List.length_nil]; omega)
          rw [hY] at hsm
          rw [hT0]
          have HN := Lib.hid (And.intro hRn (And.intro hpl (And.intro ho hT2)))
          clear hY hT0 hT2 w34 wel wbn wb hy hzy y34 y92 hg h34 hil ho hpl hr hw hRn h92 hn34
          go_wp2_with fail
          go_roundw
          case rel => exact ⟨i + 1, pre ++ [y], by omega, by go_num, by rw [HN.out.2.2.2], by rw [List.length_append, List.length_singleton]; have := HN.out.2.1; omega, HN.out.1, HN.out.2.2.1⟩
          case measure => simp [intOf]; omega
    · have hRn : R = none := by
        rw [hr, List.drop_of_length_le (by have := HQ.out; omega)]; rfl
      subst hRn
      have HE := Lib.hid ho
      clear HO ho hr hpl
      go_wp2_with fail
      go_ret3
      exact ⟨rfl, HE.out⟩
end Go.Proofs.Ytgnifdkoaajboaa.FrW
