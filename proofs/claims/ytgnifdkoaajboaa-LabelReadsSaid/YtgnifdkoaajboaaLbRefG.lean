/-
  alluviumref03.GetSmall, GetText: THE WALKS.
-/
import Derived.Test.YtgnifdkoaajboaaLbRefS
import Derived.Test.YtgnifdkoaajboaaLbPair
import Derived.Test.YtgnifdkoaajboaaLbTk
import Derived.BigRegion
namespace Go.Proofs.Ytgnifdkoaajboaa.FrW
set_option linter.unusedVariables false
open Go.RowKit FrM LabM LbM LabW
/-- What GetSmall hands back. -/
def gmV (l : List UInt8) : Option (Nat × Nat) → Value
  | none => .tuple #[.int .u64 0, .string (bs l), .bool false]
  | some (n, k) => .tuple #[.int .u64 (n : Int), .string (bs (l.drop k)), .bool true]
theorem pow9 : (128 : Nat) ^ 9 = 9223372036854775808 := by decide
theorem pow_le9 {i : Nat} (h : i ≤ 9) : (128 : Nat) ^ i ≤ 9223372036854775808 := by rw [← pow9]; exact Nat.pow_le_pow_right (by omega) h
set_option maxRecDepth 20000 in
set_option maxHeartbeats 4000000 in
theorem rgsmall_any (l : List UInt8) (w : World) (hl : l.length ≤ 2199023255552) :
    Calls Try.prog 53 #[.string (bs l)] w fun e w' => e = .returned (gmV l (gs 0 0 l)) ∧ Below w.heap.size w w' := by
  have hz := bs_size l
  obtain ⟨r, hr⟩ : ∃ r, gs 0 0 l = r := ⟨_, rfl⟩
  have HR := Lib.hid hr
  rw [hr]
  clear hr
  have HSL := Lib.hid (fun (i : Nat) (h : i + 1 ≤ l.length) => show (∀ w, (Instr.slice 9 (.string (bs l)) (some (.int .i64 ((i : Int) + 1))) none none).run Try.prog w = .ok (.string (bs (l.drop (i + 1)))) w) ∧ ∀ w, (Instr.slice 9 (.string (bs l)) none (some (.int .i64 ((i : Int) + 1))) none).run Try.prog w = .ok (.string (bs (l.take (i + 1)))) w from by
    have hs2 := slice_from (P := Try.prog) Try.underlying9 (bs l) ((i : Int) + 1) (i + 1) (by omega) (by rw [bs_size]; omega)
    rw [bs_extract, bs_size, List.take_of_length_le (by rw [List.length_drop]; omega)] at hs2
    have hs3 := slice_to (P := Try.prog) Try.underlying9 (bs l) ((i : Int) + 1) (i + 1) (by omega) (by rw [bs_size]; omega)
    rw [bs_extract] at hs3
    simp only [List.drop_zero, Nat.sub_zero] at hs3
    exact ⟨hs2, hs3⟩)
  have HE : Hid (gmV l none = .tuple #[.int .u64 0, .string (bs l), .bool false]) := Lib.hid rfl
  obtain ⟨X, hX⟩ : ∃ X, bs l = X := ⟨_, rfl⟩
  have HG : Hid (∀ (i : Nat) (h : i < X.size) (h2 : i < l.length), X[i]'h = l[i]'h2) := Lib.hid (by subst hX; exact fun i h h2 => rfl)
  rw [hX] at hz HSL HE ⊢
  have HZ := Lib.hid hz
  obtain ⟨q, hq⟩ : ∃ q, l.length = q := ⟨_, rfl⟩
  have HQ := Lib.hid hq
  rw [hq] at hz hl
  clear hX hq
  go_enter Try.func53, Try.ntmps53
  go_wp2_with fail
  go_loopw [5, 6, 7, 8] (fun v5 v6 v7 _ wr => ∃ (i acc p : Nat), i ≤ 10 ∧ i ≤ q ∧ v7 = .int .i64 i ∧ v5 = .int .u64 acc ∧ v6 = .int .u64 p ∧ (i ≤ 9 → p = 128 ^ i ∧ acc < 128 ^ i) ∧ r = gs i acc (l.drop i) ∧ Below w.heap.size w wr) (fun _ _ v7 _ _ => q - (intOf v7).toNat)
  case atStart => exact ⟨0, 0, 1, by omega, by omega, rfl, rfl, rfl, fun _ => ⟨rfl, by decide⟩, HR.out.symm, Below.refl _ _⟩
  case round =>
    obtain ⟨i, acc, p, hi10, hiq, rfl, rfl, rfl, hpp, hgs, ho⟩ := hrel
    by_cases hgo : i < q ∧ i < 10
    · obtain ⟨hlt, h10⟩ := hgo
      have hil : i < l.length := by have := HQ.out; omega
      obtain ⟨hp, hacc⟩ := hpp (by omega)
      have hpb := pow_le9 (i := i) (by omega)
      rw [← hp] at hpb hacc
      have hg := HG.out i (by have := HZ.out; omega) hil
      rw [List.drop_eq_getElem_cons hil] at hgs
      obtain ⟨y, hy⟩ : ∃ y, l[i] = y := ⟨_, rfl⟩
      rw [hy] at hg hgs
      have hy256 := y.toNat_lt
      obtain ⟨z, hzy⟩ : ∃ z, y.toNat = z := ⟨_, rfl⟩
      have hgz : X[i].toNat = z := by rw [hg]; exact hzy
      rw [hzy] at hy256
      have hgs2 : r = if (i = 9 ∧ 1 < z) ∨ (0 < i ∧ z = 0) then none else if z < 128 then some (acc + z * p, i + 1) else gs (i + 1) (acc + (z - 128) * p) (l.drop (i + 1)) := by
        rw [hgs]; conv => lhs; unfold gs
        rw [if_neg (by omega), hzy, ← hp]
      have j0 : (0 : Int) ≤ (i : Int) := by omega
      have j1 : (i : Int) < (q : Int) := by omega
      have j2 : (i : Int) < 10 := by omega
      obtain ⟨zl, hzl⟩ : ∃ zl, z % 128 = zl := ⟨_, rfl⟩
      have hzi : (z : Int) % 128 = (zl : Int) := by omega
      have hzl2 : zl < 128 := by omega
      by_cases hbad : i = 9 ∧ 1 < zl
      · have hrn : r = none := by
          rw [hgs2, if_pos (.inl ⟨hbad.1, by omega⟩)]
        subst hrn
        obtain ⟨rfl, hb⟩ := hbad
        have hb2 : (zl : Int) > 1 := by omega
        have HO := Lib.hid ho
        clear hgs hgs2 hpp ho hg hy hzy hp hacc hpb
        go_wp2_with fail
        go_ret3
        exact ⟨by rw [HE.out]; rfl, HO.out⟩
      have hmul : zl * p ≤ 18446744073709551615 - acc := by
        by_cases h9 : i = 9
        · have : zl ≤ 1 := by omega
          subst h9
          have h1 := Nat.mul_le_mul_right p this
          rw [pow9] at hp
          omega
        · have h2 : zl ≤ 127 := by omega
          have h3 := Nat.mul_le_mul_right p h2
          have h4 : p ≤ 72057594037927936 := by rw [hp, show (72057594037927936 : Nat) = 128 ^ 8 by decide]; exact Nat.pow_le_pow_right (by omega) (by omega)
          omega
      have hmul2 : i ≤ 8 → acc + zl * p < 128 ^ (i + 1) := fun h8 => by
        have h3 := Nat.mul_le_mul_right p (show zl ≤ 127 by omega)
        rw [Nat.pow_succ, ← hp]; omega
      obtain ⟨zp, hzp⟩ : ∃ zp, zl * p = zp := ⟨_, rfl⟩
      have hzpi : (zl : Int) * (p : Int) = (zp : Int) := by rw [← hzp, Int.natCast_mul]
      rw [hzp] at hmul hmul2
      have hnb : ((i : Int) == 9) = false ∨ (((i : Int) == 9) = true ∧ ¬ (zl : Int) > 1) := by
        by_cases h9 : i = 9
        · right; exact ⟨by simp; omega, by omega⟩
        · left; simp; omega
      have hp128 : ∃ p2 : Nat, IntKind.u64.wrap ((p : Int) * 128) = (p2 : Int) ∧ (i ≤ 8 → p2 = 128 ^ (i + 1)) := by
        by_cases h8 : i ≤ 8
        · refine ⟨128 ^ (i + 1), ?_, fun _ => rfl⟩
          have h4 : (128 : Nat) ^ (i + 1) ≤ 9223372036854775808 := pow_le9 (by omega)
          have h5 : (128 : Nat) ^ (i + 1) = p * 128 := by rw [Nat.pow_succ, ← hp]
          rw [IntKind.wrap_u64, h5]
          rw [h5] at h4
          omega
        · refine ⟨((p : Int) * 128 % 18446744073709551616).toNat, ?_, fun h => absurd h h8⟩
          rw [IntKind.wrap_u64]; omega
      obtain ⟨p2, hp2, hp3⟩ := hp128
      obtain ⟨ac2, hac⟩ : ∃ ac2, acc + zp = ac2 := ⟨_, rfl⟩
      have haci : (acc : Int) + (zp : Int) = (ac2 : Int) := by omega
      rw [hac] at hmul2
      by_cases hlast : z < 128
      · have hzz : zl = z := by omega
        have HSM : Hid (∀ W, Calls Try.prog 49 #[.int .u64 (ac2 : Int)] W fun e w' => e = .returned (.string (bs (small ac2))) ∧ Below W.heap.size W w') := Lib.hid (fun W => rsmall_any ac2 W (by omega))
        have hck : ((bs (small ac2)).toList == (bs (l.take (i + 1))).toList) = r.isSome := by
          rw [bs_beq]
          cases hrr : r with
          | some pr =>
            obtain ⟨n, k⟩ := pr
            rw [hrr] at hgs2
            have hr2 := HR.out
            rw [hrr] at hr2
            obtain ⟨g1, g2, g3⟩ := gs_is hr2
            by_cases hc : (i = 9 ∧ 1 < z) ∨ (0 < i ∧ z = 0)
            · rw [if_pos hc] at hgs2; cases hgs2
            · rw [if_neg hc, if_pos hlast] at hgs2
              injection hgs2 with hgs2
              injection hgs2 with e1 e2
              subst e1 e2
              refine decide_eq_true ?_
              rw [show acc + z * p = ac2 by rw [← hac, ← hzp, hzz]] at g2 g3
              rw [g2]
              conv => rhs; rw [g3]
              exact (List.take_left).symm
          | none =>
            refine decide_eq_false ?_
            intro he
            have h1 := gs_small ac2 (l.drop (i + 1)) (by omega)
            rw [he, List.take_append_drop] at h1
            rw [HR.out, hrr] at h1
            cases h1
        obtain ⟨hsl1, hsl2⟩ := HSL.out i (by omega)
        have hv : ∀ h : r.isSome = true, gmV l r = .tuple #[.int .u64 (ac2 : Int), .string (bs (l.drop (i + 1))), .bool true] := fun h => by
          rw [hgs2] at h ⊢
          by_cases hc : (i = 9 ∧ 1 < z) ∨ (0 < i ∧ z = 0)
          · rw [if_pos hc] at h; cases h
          · rw [if_neg hc, if_pos hlast, ← hac, ← hzp, hzz]; rfl
        have HV := Lib.hid hv
        have hrN : r.isSome = false → r = none := fun h => by cases r with | none => rfl | some => cases h
        obtain ⟨SA, hSA⟩ : ∃ S, bs (small ac2) = S := ⟨_, rfl⟩
        obtain ⟨SB, hSB⟩ : ∃ S, bs (l.take (i + 1)) = S := ⟨_, rfl⟩
        obtain ⟨SC, hSC⟩ : ∃ S, bs (l.drop (i + 1)) = S := ⟨_, rfl⟩
        rw [hSA] at HSM hck
        rw [hSB] at hck hsl2
        rw [hSC] at hsl1 HV
        have HRN := Lib.hid hrN
        obtain ⟨T, hT⟩ : ∃ T, r.isSome = T := ⟨_, rfl⟩
        have HT := Lib.hid hT
        rw [hT] at hck
        have hl128 : (z : Int) < 128 := by omega
        have HO := Lib.hid ho
        have i1q : (i : Int) + 1 ≤ (q : Int) := by omega
        have i10 : (0 : Int) ≤ (i : Int) + 1 := by omega
        have iw : IntKind.i64.wrap ((i : Int) + 1) = (i : Int) + 1 := by rw [IntKind.wrap_i64]; omega
        have ha64 : ac2 ≤ 18446744073709551615 := by omega
        clear hgs hgs2 hpp ho hg hy hzy hp hacc hpb hbad hmul2 hSA hSB hSC hv hrN hT hlast hzz hp3 hac hzp
        have hneq : (SA.toList != SB.toList) = !T := by rw [bne, hck]
        cases T with
        | false =>
          have hrn := HRN.out HT.out
          subst hrn
          rcases hnb with h9 | ⟨h9, h91⟩
          all_goals (
            go_wp2_with fail
            go_region_held3 (fun W : World => Below w.heap.size w W)
              (first | exact later HO.out (below_self_drew _) | exact later (by assumption) (by assumption))
              ((go_at_call 49; refine (HSM.out _).mono ?_; rintro e w5 ⟨rfl, hb5⟩))
            rename_i hh
            have HH := Lib.hid hh
            clear hh hb5
            go_wp2_with fail
            go_ret3
            exact ⟨by rw [HE.out]; rfl, HH.out⟩)
        | true =>
          have hve := HV.out HT.out
          have HVE := Lib.hid hve
          clear hve
          rcases hnb with h9 | ⟨h9, h91⟩
          all_goals (
            go_wp2_with fail
            go_region_held3 (fun W : World => Below w.heap.size w W)
              (first | exact later HO.out (below_self_drew _) | exact later (by assumption) (by assumption))
              ((go_at_call 49; refine (HSM.out _).mono ?_; rintro e w5 ⟨rfl, hb5⟩))
            rename_i hh
            have HH := Lib.hid hh
            clear hh hb5
            go_wp2_with fail
            go_region
            go_wp2_with fail
            go_ret3
            exact ⟨by rw [HVE.out]; rfl, HH.out.trans ⟨rfl, rfl, rfl, Nat.le_refl _, fun _ _ => rfl⟩⟩)
      · have hrn : r = gs (i + 1) ac2 (l.drop (i + 1)) := by
          by_cases h9 : i = 9
          · rw [hgs2, if_pos (.inl ⟨h9, by omega⟩), h9]
            cases hd : l.drop (9 + 1) with
            | nil => rfl
            | cons y t => unfold gs; rw [if_pos (by omega)]
          · rw [hgs2, if_neg (by omega), if_neg hlast, ← hac, ← hzp, show z - 128 = zl by omega]
        have HN := Lib.hid (And.intro hrn (And.intro ho (And.intro hp3 hmul2)))
        have hl128 : ¬ (z : Int) < 128 := by omega
        have ha64 : ac2 ≤ 18446744073709551615 := by omega
        clear hgs hgs2 hpp ho hg hy hzy hp hacc hpb hbad hrn hp3 hmul2 hac hzp
        rcases hnb with h9 | ⟨h9, h91⟩
        all_goals (
          go_wp2_with fail
          go_roundw
          case rel => exact ⟨i + 1, ac2, p2, by omega, by omega, by go_num, rfl, rfl, fun h => ⟨HN.out.2.2.1 (by omega), HN.out.2.2.2 (by omega)⟩, HN.out.1, HN.out.2.1⟩
          case measure => simp [intOf]; omega)
    · have hrn : r = none := by
        rw [hgs]
        by_cases hq : i = q
        · rw [List.drop_of_length_le (by have := HQ.out; omega)]; rfl
        · have h10 : i = 10 := by omega
          cases hd : l.drop i with
          | nil => rfl
          | cons y t => unfold gs; rw [if_pos (by omega)]
      subst hrn
      have hcase : (¬ (i : Int) < (q : Int)) ∨ ((i : Int) < (q : Int) ∧ ¬ (i : Int) < 10) := by omega
      have HO := Lib.hid ho
      clear hgs hpp ho hgo
      rcases hcase with h1 | ⟨h1, h2⟩
      all_goals (
        go_wp2_with fail
        go_ret3
        exact ⟨by rw [HE.out]; rfl, HO.out⟩)
/-- What GetText hands back. -/
def gtV (l : List UInt8) : Option (List UInt8 × List UInt8) → Value
  | none => .tuple #[.string ⟨#[]⟩, .string (bs l), .bool false]
  | some (b, r) => .tuple #[.string (bs b), .string (bs r), .bool true]
set_option maxRecDepth 20000 in
set_option maxHeartbeats 2000000 in
theorem rgtext_any (l : List UInt8) (w : World) (hl : l.length ≤ 2199023255552) :
    Calls Try.prog 42 #[.string (bs l), .int .i64 48] w fun e w' => e = .returned (gtV l (getT l)) ∧ Below w.heap.size w w' := by
  have HG := Lib.hid (rgsmall_any l w hl)
  have HN : Hid (gtV l none = .tuple #[.string ⟨#[]⟩, .string (bs l), .bool false]) := Lib.hid rfl
  cases hg : gs 0 0 l with
  | none =>
    have e1 : getT l = none := by unfold getT; rw [hg]
    rw [hg] at HG
    rw [e1, HN.out]
    rw [show gmV l none = .tuple #[.int .u64 0, .string (bs l), .bool false] from rfl] at HG
    obtain ⟨X, hX⟩ : ∃ X, bs l = X := ⟨_, rfl⟩
    rw [hX] at HG ⊢
    clear hX HN e1 hg
    go_enter Try.func42, Try.ntmps42
    go_wp2_with fail
    refine HG.out.mono ?_
    rintro e w1 ⟨rfl, hb1⟩
    have HB := Lib.hid hb1
    clear hb1
    go_wp2_with fail
    go_ret3
    exact ⟨rfl, HB.out⟩
  | some p =>
    obtain ⟨n, k⟩ := p
    obtain ⟨g1, g2, g3⟩ := gs_is hg
    rw [hg] at HG
    rw [show gmV l (some (n, k)) = .tuple #[.int .u64 (n : Int), .string (bs (l.drop k)), .bool true] from rfl] at HG
    have hz := bs_size (l.drop k)
    by_cases hbad : l.length - k < n ∨ 48 < n
    · have e1 : getT l = none := by unfold getT; rw [hg]; simp only []; rw [if_pos hbad]
      rw [e1, HN.out]
      rw [List.length_drop] at hz
      obtain ⟨m, hm⟩ : ∃ m, l.length - k = m := ⟨_, rfl⟩
      rw [hm] at hz hbad
      have hm2 : m ≤ 2199023255552 := by omega
      obtain ⟨X, hX⟩ : ∃ X, bs l = X := ⟨_, rfl⟩
      obtain ⟨Y, hY⟩ : ∃ Y, bs (l.drop k) = Y := ⟨_, rfl⟩
      rw [hX] at HG ⊢
      rw [hY] at HG hz
      have hcase : (n : Int) > (m : Int) ∨ (¬ (n : Int) > (m : Int) ∧ (n : Int) > 48) := by omega
      clear hX hY HN e1 hg g2 g3 hm hl hbad
      rcases hcase with h1 | ⟨h1, h2⟩
      all_goals (
        go_enter Try.func42, Try.ntmps42
        go_wp2_with fail
        refine HG.out.mono ?_
        rintro e w1 ⟨rfl, hb1⟩
        have HB := Lib.hid hb1
        clear hb1
        go_wp2_with fail
        go_ret3
        exact ⟨rfl, HB.out⟩)
    · have e1 : getT l = some ((l.drop k).take n, l.drop (k + n)) := by unfold getT; rw [hg]; simp only []; rw [if_neg hbad]
      rw [e1]
      have hld : (l.drop k).length = l.length - k := List.length_drop
      have hs1 := slice_to (P := Try.prog) Try.underlying9 (bs (l.drop k)) (n : Int) n rfl (by omega)
      have hs2 := slice_from (P := Try.prog) Try.underlying9 (bs (l.drop k)) (n : Int) n rfl (by omega)
      rw [bs_extract] at hs1 hs2
      simp only [List.drop_zero, Nat.sub_zero] at hs1
      rw [bs_size, List.take_of_length_le (by rw [List.length_drop]; omega), List.drop_drop] at hs2
      unfold gtV
      simp only []
      rw [List.length_drop] at hz
      obtain ⟨m, hm⟩ : ∃ m, l.length - k = m := ⟨_, rfl⟩
      rw [hm] at hz hbad
      have hm2 : m ≤ 2199023255552 := by omega
      obtain ⟨X, hX⟩ : ∃ X, bs l = X := ⟨_, rfl⟩
      obtain ⟨Y, hY⟩ : ∃ Y, bs (l.drop k) = Y := ⟨_, rfl⟩
      obtain ⟨U, hU⟩ : ∃ Y, bs ((l.drop k).take n) = Y := ⟨_, rfl⟩
      obtain ⟨V, hV⟩ : ∃ Y, bs (l.drop (k + n)) = Y := ⟨_, rfl⟩
      rw [hX] at HG ⊢
      rw [hY] at HG hz hs1 hs2
      rw [hU] at hs1 ⊢
      rw [hV] at hs2 ⊢
      have h1 : ¬ (n : Int) > (m : Int) := by omega
      have h2 : ¬ (n : Int) > 48 := by omega
      have h3 : n ≤ 48 := by omega
      clear hX hY hU hV HN e1 hg g2 g3 hm hl hbad hld
      go_enter Try.func42, Try.ntmps42
      go_wp2_with fail
      refine HG.out.mono ?_
      rintro e w1 ⟨rfl, hb1⟩
      have HB := Lib.hid hb1
      clear hb1
      go_wp2_with fail
      go_region
      go_wp2_with fail
      go_ret3
      exact ⟨rfl, HB.out.trans ⟨rfl, rfl, rfl, Nat.le_refl _, fun _ _ => rfl⟩⟩
end Go.Proofs.Ytgnifdkoaajboaa.FrW
