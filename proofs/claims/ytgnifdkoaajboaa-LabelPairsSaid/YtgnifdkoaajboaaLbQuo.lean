/-
  label.quoted: THE WALK.
-/
import Derived.Test.YtgnifdkoaajboaaLbCut
namespace Go.Proofs.Ytgnifdkoaajboaa.FrW
set_option linter.unusedVariables false
open Go.RowKit FrM LabM LbM LabW
theorem elemU8q : Elem Try.prog 5 (.int .u8 0) 1 1 := by unfold Elem; kernel_rfl
/-- What quoted hands back. -/
def qtV : Option (List UInt8 × List UInt8) → Value
  | none => .tuple #[.string ⟨#[]⟩, .string ⟨#[]⟩, .bool false]
  | some (v, r) => .tuple #[.string (bs v), .string (bs r), .bool true]
def pth (pre : List UInt8) (o : Option (List UInt8 × List UInt8)) : Option (List UInt8 × List UInt8) := o.map fun p => (pre ++ p.1, p.2)
theorem pth_nil (o : Option (List UInt8 × List UInt8)) : pth [] o = o := by cases o <;> rfl
theorem pth_cons (pre : List UInt8) (c : UInt8) (o : Option (List UInt8 × List UInt8)) : pth pre (o.map fun p => (c :: p.1, p.2)) = pth (pre ++ [c]) o := by cases o <;> simp [pth]
theorem wd_at (l : List UInt8) (i : Nat) (h : i < l.length) : (l[i] = 34 → wd 34 (l.drop i) = some ([], l.drop (i + 1))) ∧ (l[i] ≠ 34 → l[i] ≠ 92 → wd 34 (l.drop i) = (wd 34 (l.drop (i + 1))).map fun p => (l[i] :: p.1, p.2)) ∧ (l[i] = 92 → i + 1 = l.length → wd 34 (l.drop i) = none) ∧ (∀ h2 : i + 1 < l.length, l[i] = 92 → wd 34 (l.drop i) = (wd 34 (l.drop (i + 1 + 1))).map fun p => (l[i + 1] :: p.1, p.2)) := by
  have e := List.drop_eq_getElem_cons h
  refine ⟨fun h1 => ?_, fun h1 h2 => ?_, fun h1 h2 => ?_, fun h2 h1 => ?_⟩
  · rw [e, h1, wd_end]
  · rw [e, wd_cons 34 _ _ h1 h2]
  · rw [e, h1, h2, List.drop_of_length_le (Nat.le_refl _)]; rfl
  · rw [e, h1, List.drop_eq_getElem_cons h2, wd_back 34 _ _ (by decide)]
set_option maxRecDepth 20000 in
set_option maxHeartbeats 4000000 in
theorem quoted_any (l : List UInt8) (w : World) (hl : l.length ≤ 1099511627776) :
    Calls Try.prog 44 #[.string (bs l)] w fun e w' => e = .returned (qtV (wd 34 (l.drop 1))) ∧ Below w.heap.size w w' := by
  obtain ⟨R, hR⟩ : ∃ R, wd 34 (l.drop 1) = R := ⟨_, rfl⟩
  have HR := Lib.hid hR
  rw [hR]
  clear hR
  have hz := bs_size l
  have HSL := Lib.hid (fun (i : Nat) (h : i + 1 ≤ l.length) => show ∀ w, (Instr.slice 9 (.string (bs l)) (some (.int .i64 ((i : Int) + 1))) none none).run Try.prog w = .ok (.string (bs (l.drop (i + 1)))) w from by
    have hs2 := slice_from (P := Try.prog) Try.underlying9 (bs l) ((i : Int) + 1) (i + 1) (by omega) (by rw [bs_size]; omega)
    rw [bs_extract, bs_size, List.take_of_length_le (by rw [List.length_drop]; omega)] at hs2
    exact hs2)
  obtain ⟨X, hX⟩ : ∃ X, bs l = X := ⟨_, rfl⟩
  have HG : Hid (∀ (i : Nat) (h : i < X.size) (h2 : i < l.length), X[i]'h = l[i]'h2) := Lib.hid (by subst hX; exact fun i h h2 => rfl)
  rw [hX] at hz HSL ⊢
  have HZ := Lib.hid hz
  obtain ⟨q, hq⟩ : ∃ q, l.length = q := ⟨_, rfl⟩
  have HQ := Lib.hid hq
  rw [hq] at hz hl
  clear hX hq
  go_enter Try.func44, Try.ntmps44
  go_wp2_with fail
  go_loopw [5, 6] (fun v5 v6 wr => ∃ (i : Nat) (pre : List UInt8), 1 ≤ i ∧ i ≤ q + 1 ∧ v6 = .int .i64 i ∧ pre.length ≤ i ∧ R = pth pre (wd 34 (l.drop i)) ∧ wr.ownsRow w.heap.size 5 1 v5 pre.length (byteCells pre) ∧ Below w.heap.size w wr) (fun _ v6 _ => q + 1 - (intOf v6).toNat)
  case atStart => exact ⟨1, [], Nat.le_refl _, by omega, rfl, Nat.zero_le _, by rw [pth_nil]; exact HR.out.symm, World.ownsRow_nil _ _ _ _, Below.refl _ _⟩
  case round =>
    obtain ⟨i, pre, hi1, hi2, rfl, hpl, hr, hown, ho⟩ := hrel
    have hbz := ho.size
    have HO := Lib.hid (And.intro ho (And.intro hpl hr))
    clear ho hpl hr
    by_cases hlt : i < q
    · have hil : i < l.length := by have := HQ.out; omega
      have hg := HG.out i (by have := HZ.out; omega) hil
      obtain ⟨w34, wel, wbn, wb⟩ := wd_at l i hil
      obtain ⟨y, hy⟩ : ∃ y, l[i] = y := ⟨_, rfl⟩
      rw [hy] at hg w34 wel wbn wb
      obtain ⟨z, hzy⟩ : ∃ z, y.toNat = z := ⟨_, rfl⟩
      have hgz : X[i].toNat = z := by rw [hg]; exact hzy
      have y34 : y = 34 ↔ z = 34 := by rw [← hzy]; exact UInt8.toNat_inj.symm
      have y92 : y = 92 ↔ z = 92 := by rw [← hzy]; exact UInt8.toNat_inj.symm
      have j0 : (0 : Int) ≤ (i : Int) := by omega
      have j1 : (i : Int) < (q : Int) := by omega
      by_cases h34 : z = 34
      · have hsl := HSL.out i (by omega)
        have hconv := conv_owned (P := Try.prog) (src := 42) (dst := 9) Try.underlying42 Try.underlying5 Try.underlying9 hown
        have hconv2 := conv_owned (P := Try.prog) (w := wr.drew) (src := 42) (dst := 9) Try.underlying42 Try.underlying5 Try.underlying9 hown
        have hRs : R = some (pre, l.drop (i + 1)) := by rw [HO.out.2.2, w34 (y34.2 h34)]; simp [pth]
        subst hRs
        have hd : ((z : Int) == 34) = true := by simp; omega
        have i10 : (0 : Int) ≤ (i : Int) + 1 := by omega
        have i1q : (i : Int) + 1 ≤ (q : Int) := by omega
        have HE := Lib.hid HO.out.1
        change _ = Result.ok (Value.string (bs pre)) _ at hconv
        change _ = Result.ok (Value.string (bs pre)) _ at hconv2
        obtain ⟨Y, hY⟩ : ∃ Y, bs pre = Y := ⟨_, rfl⟩
        obtain ⟨Z, hZ⟩ : ∃ Z, bs (l.drop (i + 1)) = Z := ⟨_, rfl⟩
        have HQV : Hid (qtV (some (pre, l.drop (i + 1))) = .tuple #[.string Y, .string Z, .bool true]) := Lib.hid (by rw [← hY, ← hZ]; rfl)
        rw [hY] at hconv hconv2
        rw [hZ] at hsl
        clear hY hZ w34 wel wbn wb hy hzy y34 y92 hg h34 HO hown hil
        go_wp2_with fail
        go_region
        go_wp2_with fail
        go_ret3
        exact ⟨by rw [HQV.out]; rfl, HE.out.trans ⟨rfl, rfl, rfl, Nat.le_refl _, fun _ _ => rfl⟩⟩
      · have hd : ((z : Int) == 34) = false := by simp; omega
        have hn34 : y ≠ 34 := fun e => h34 (y34.1 e)
        by_cases h92 : z = 92
        · have hd2 : ((z : Int) == 92) = true := by simp; omega
          by_cases hlt2 : i + 1 < q
          · have hil2 : i + 1 < l.length := by have := HQ.out; omega
            have hg2 := HG.out (i + 1) (by have := HZ.out; omega) hil2
            have hw := wb hil2 (y92.2 h92)
            obtain ⟨y2, hy2⟩ : ∃ y2, l[i + 1] = y2 := ⟨_, rfl⟩
            rw [hy2] at hg2 hw
            have hgz2 : X[i + 1].toNat = y2.toNat := by rw [hg2]
            have hRn : R = pth (pre ++ [y2]) (wd 34 (l.drop (i + 1 + 1))) := by rw [HO.out.2.2, hw, pth_cons]
            have HN := Lib.hid (And.intro hRn HO.out.1)
            have j2 : (0 : Int) ≤ (i : Int) + 1 := by omega
            have j3 : (i : Int) + 1 < (q : Int) := by omega
            have hpl2 : pre.length ≤ 1099511627778 := by have := HO.out.2.1; omega
            obtain ⟨z2, hz2⟩ : ∃ z2, y2.toNat = z2 := ⟨_, rfl⟩
            rw [hz2] at hgz2
            have HPL := Lib.hid (And.intro HO.out.2.1 hz2)
            clear w34 wel wbn wb hy hzy y34 y92 hg h34 HO hil hn34 hw hRn hg2 hy2 hz2 h92
            go_wp2_with (at_builtin; go_must (refine wpList_append_one rfl _ _ 42 rfl w.heap.size 5 (.int .u8 0) 1 1 Try.underlying42 elemU8q rfl (by decide) wr hown rfl _ rfl rfl (one1 rfl) (by omega) (by omega) hbz ?_); intro v' w' hown' hb' hz'; clear hown)
            go_roundw
            case rel =>
              refine ⟨i + 1 + 1, pre ++ [y2], by omega, by omega, by go_num, ?_, HN.out.1, ?_, HN.out.2.trans hb'⟩
              · rw [List.length_append, List.length_singleton]; have := HPL.out.1; omega
              · rw [List.length_append, List.length_singleton, byteCells_append]
                have e2 : byteCells [y2] = [Value.int .u8 (z2 : Int)] := by simp only [byteCells, List.map_cons, List.map_nil]; rw [HPL.out.2]
                rw [e2]; exact hown'
            case measure => simp [intOf]; omega
          · have hRn : R = none := by
              rw [HO.out.2.2, wbn (y92.2 h92) (by have := HQ.out; omega)]; rfl
            have hR2 : R = pth pre (wd 34 (l.drop (i + 1 + 1))) := by
              rw [hRn, List.drop_of_length_le (by have := HQ.out; omega)]; rfl
            have HN := Lib.hid (And.intro hR2 (And.intro HO.out.1 (And.intro HO.out.2.1 hown)))
            have j3 : ¬ (i : Int) + 1 < (q : Int) := by omega
            have j4 : decide ((i : Int) + 1 < (q : Int)) = false := decide_eq_false j3
            clear w34 wel wbn wb hy hzy y34 y92 hg h34 HO hil hn34 hRn hR2 h92 hown
            go_wp2_with fail
            go_roundw
            case rel => exact ⟨i + 1 + 1, pre, by omega, by omega, by go_num, by have := HN.out.2.2.1; omega, HN.out.1, HN.out.2.2.2, HN.out.2.1⟩
            case measure => simp [intOf]; omega
        · have hd2 : ((z : Int) == 92) = false := by simp; omega
          have hw := wel hn34 (fun e => h92 (y92.1 e))
          have hRn : R = pth (pre ++ [y]) (wd 34 (l.drop (i + 1))) := by rw [HO.out.2.2, hw, pth_cons]
          have HN := Lib.hid (And.intro hRn (And.intro HO.out.1 (And.intro HO.out.2.1 hzy)))
          have hpl2 : pre.length ≤ 1099511627778 := by have := HO.out.2.1; omega
          clear w34 wel wbn wb hy hzy y34 y92 hg h34 HO hil hn34 h92 hw hRn
          go_wp2_with (at_builtin; go_must (refine wpList_append_one rfl _ _ 42 rfl w.heap.size 5 (.int .u8 0) 1 1 Try.underlying42 elemU8q rfl (by decide) wr hown rfl _ rfl rfl (one1 rfl) (by omega) (by omega) hbz ?_); intro v' w' hown' hb' hz'; clear hown)
          go_roundw
          case rel =>
            refine ⟨i + 1, pre ++ [y], by omega, by omega, by go_num, ?_, HN.out.1, ?_, HN.out.2.1.trans hb'⟩
            · rw [List.length_append, List.length_singleton]; have := HN.out.2.2.1; omega
            · rw [List.length_append, List.length_singleton, byteCells_append]
              have e2 : byteCells [y] = [Value.int .u8 (z : Int)] := by simp only [byteCells, List.map_cons, List.map_nil]; rw [HN.out.2.2.2]
              rw [e2]; exact hown'
          case measure => simp [intOf]; omega
    · have hRn : R = none := by
        rw [HO.out.2.2, List.drop_of_length_le (by have := HQ.out; omega)]; rfl
      subst hRn
      have HE := Lib.hid HO.out.1
      clear HO hown
      go_wp2_with fail
      go_ret3
      exact ⟨rfl, HE.out⟩
end Go.Proofs.Ytgnifdkoaajboaa.FrW
