/-
  alluviumref06.Ahead, Right, Longest, Same; label.Less, Same, Longest, Limit: THE WALKS.
-/
import Derived.Test.YtgnifdkoaajboaaLbNm
import Derived.Test.YtgnifdkoaajboaaLbRefK
namespace Go.Proofs.Ytgnifdkoaajboaa.FrW
set_option linter.unusedVariables false
open Go.RowKit FrM LabM LbM LabW
theorem ltB_at (a b : ByteArray) (k : Nat) (ha : k < a.size) (hb : k < b.size) : ltB (a.data.toList.drop k) (b.data.toList.drop k) = if a[k] = b[k] then ltB (a.data.toList.drop (k + 1)) (b.data.toList.drop (k + 1)) else decide (a[k].toNat < b[k].toNat) := by
  rw [List.drop_eq_getElem_cons (l := a.data.toList) (i := k) (by simpa using ha), List.drop_eq_getElem_cons (l := b.data.toList) (i := k) (by simpa using hb)]
  rfl
theorem ltB_end (a b : ByteArray) (k : Nat) (ha : k ≤ a.size) (hb : k ≤ b.size) (h : ¬ (k < a.size ∧ k < b.size)) : ltB (a.data.toList.drop k) (b.data.toList.drop k) = decide (a.size < b.size) := by
  by_cases h1 : k < a.size
  · have h2 : k = b.size := by omega
    rw [List.drop_eq_getElem_cons (l := a.data.toList) (i := k) (by simpa using h1), List.drop_of_length_le (l := b.data.toList) (by simp; omega), decide_eq_false (by omega)]
    rfl
  · have h2 : k = a.size := by omega
    rw [List.drop_of_length_le (l := a.data.toList) (by simp; omega)]
    by_cases h3 : k < b.size
    · rw [List.drop_eq_getElem_cons (l := b.data.toList) (i := k) (by simpa using h3), decide_eq_true (by omega)]; rfl
    · rw [List.drop_of_length_le (l := b.data.toList) (by simp; omega), decide_eq_false (by omega)]; rfl
set_option maxRecDepth 20000 in
set_option maxHeartbeats 1000000 in
theorem rahead_any (a b : ByteArray) (w : World) (ha : a.size ≤ 1099511627776) (hb : b.size ≤ 1099511627776) :
    Calls Try.prog 30 #[.string a, .string b] w fun e w' => e = .returned (.bool (ltB a.data.toList b.data.toList)) ∧ ∃ m, w' = w.drewN m := by
  obtain ⟨R, hR⟩ : ∃ R, ltB a.data.toList b.data.toList = R := ⟨_, rfl⟩
  rw [hR]
  have HR := Lib.hid hR
  clear hR
  go_enter Try.func30, Try.ntmps30
  go_wp2_with fail
  go_loopw [5] (fun v5 wr => ∃ (k : Nat), k ≤ a.size ∧ k ≤ b.size ∧ v5 = .int .i64 k ∧ R = ltB (a.data.toList.drop k) (b.data.toList.drop k) ∧ ∃ m, wr = w.drewN m) (fun v5 _ => a.size - (intOf v5).toNat)
  case atStart => exact ⟨0, Nat.zero_le _, Nat.zero_le _, rfl, HR.out.symm, 0, rfl⟩
  case round =>
    obtain ⟨k, hka, hkb, rfl, hr, m, hw⟩ := hrel
    by_cases h1 : k < a.size
    · by_cases h2 : k < b.size
      · rw [ltB_at a b k h1 h2] at hr
        have HX := Lib.hid (And.intro hr hw)
        clear hr hw
        have k0 : (0 : Int) ≤ (k : Int) := by omega
        have k1 : (k : Int) < (a.size : Int) := by omega
        have k2 : (k : Int) < (b.size : Int) := by omega
        by_cases he : a[k] = b[k]
        · have hq : ((a[k].toNat : Int) != (b[k].toNat : Int)) = false := by rw [he]; simp
          go_wp2_with fail
          go_quiet (fail)
          go_wp2_with fail
          go_round
          case rel => exact ⟨k + 1, by omega, by omega, by go_num, by rw [HX.out.1, if_pos he], _, by rw [HX.out.2, World.drewN_drewN]⟩
          case measure => simp [intOf]; omega
        · have hne : a[k].toNat ≠ b[k].toNat := fun e => he (UInt8.toNat_inj.1 e)
          have hq : ((a[k].toNat : Int) != (b[k].toNat : Int)) = true := by simp; omega
          have hd : R = decide (a[k].toNat < b[k].toNat) := by rw [HX.out.1, if_neg he]
          have HD := Lib.hid hd
          clear hd
          go_wp2_with fail
          go_quiet (fail)
          go_wp2_with fail
          go_quiet (fail)
          go_wp2_with fail
          go_ret
          exact ⟨by rw [HD.out]; rfl, _, by rw [HX.out.2, World.drewN_drewN, World.drewN_drewN]⟩
      · rw [ltB_end a b k hka hkb (fun h => h2 h.2)] at hr
        have hr2 : R = decide (a.size < b.size) := hr
        have HX := Lib.hid (And.intro hr2 hw)
        clear hr hw hr2
        go_wp2_with fail
        go_ret
        exact ⟨by rw [HX.out.1]; rfl, m, HX.out.2⟩
    · rw [ltB_end a b k hka hkb (fun h => h1 h.1)] at hr
      have hr2 : R = decide (a.size < b.size) := hr
      have HX := Lib.hid (And.intro hr2 hw)
      clear hr hw hr2
      go_wp2_with fail
      go_ret
      exact ⟨by rw [HX.out.1]; rfl, m, HX.out.2⟩
/-- May labels be, up to the k-th one. -/
def rtL : Txt → List Lab → Bool := chkL
theorem chk_snoc : ∀ (l : List Lab) (last : Txt) (k : Nat) (h : k < l.length), chkL last (l.take (k + 1)) = (chkL last (l.take k) && (ltB (if k = 0 then last else (l.getD (k - 1) (ByteArray.empty, ByteArray.empty)).1.data.toList) l[k].1.data.toList && nameB l[k].1.data.toList && valueB l[k].2.data.toList))
  | [], _, _, h => by simp at h
  | x :: l, last, 0, h => by simp [chkL]
  | x :: l, last, k + 1, h => by
    rw [List.take_succ_cons, List.take_succ_cons, chkL, chkL, chk_snoc l x.1.data.toList k (by simpa using h)]
    cases k with
    | zero => simp [Bool.and_assoc]
    | succ k => simp [Bool.and_assoc]
theorem chk_pre : ∀ (l : List Lab) (last : Txt) (k : Nat), chkL last (l.take k) = false → chkL last l = false
  | [], _, _, h => by simpa using h
  | x :: l, last, 0, h => by simp [chkL] at h
  | x :: l, last, k + 1, h => by
    rw [List.take_succ_cons, chkL] at h
    rw [chkL]
    cases h1 : (ltB last x.1.data.toList && nameB x.1.data.toList && valueB x.2.data.toList) with
    | false => rfl
    | true => rw [h1, Bool.true_and] at h; rw [chk_pre l _ k h]; rfl
theorem ltB_name {s : Txt} (h : nameB s = true) : ltB [] s = true := by
  have := (name_48 h).1
  cases s with
  | nil => simp at this
  | cons => rfl
set_option maxRecDepth 20000 in
set_option maxHeartbeats 2000000 in
theorem rright_any (A : Option Addr) (n c : Nat) (l : List Lab) (w : World) (hl : Comes w 2 encL okL A n c l) (hs : shortL l) :
    Calls Try.prog 13 #[.slice A n c] w fun e w' => e = .returned (.bool (checkB l)) ∧ Below w.heap.size w w' := by
  have HL := Lib.hid hl
  have HS := Lib.hid hs
  have hcap : c ≤ 9223372036854775807 := hl.cap
  have hle := hl.le
  have hln := hl.len
  obtain ⟨R, hR⟩ : ∃ R, checkB l = R := ⟨_, rfl⟩
  rw [hR]
  have HR := Lib.hid hR
  clear hl hs hR
  by_cases hn1 : n < 1
  · have hRf : R = false := by rw [← HR.out]; unfold checkB; cases l with
      | nil => rfl
      | cons => simp at hln; omega
    subst hRf
    clear hln HR
    go_enter Try.func13, Try.ntmps13
    go_wp2_with fail
    go_ret
    exact ⟨rfl, Below.refl _ _⟩
  by_cases hn6 : 6 < n
  · have hRf : R = false := by rw [← HR.out]; unfold checkB; rw [decide_eq_false (by omega), Bool.and_false]
    subst hRf
    clear hln HR
    go_enter Try.func13, Try.ntmps13
    go_wp2_with fail
    go_ret
    exact ⟨rfl, Below.refl _ _⟩
  have hR2 : R = chkL [] l := by
    rw [← HR.out]; unfold checkB; rw [decide_eq_true (by omega), Bool.and_true]
    cases l with
    | nil => simp at hln; omega
    | cons => simp
  have HR2 := Lib.hid (And.intro hR2 hln)
  clear hln HR hR2
  go_enter Try.func13, Try.ntmps13
  go_wp2_with fail
  go_loopw [3] (fun v3 wr => ∃ (k : Nat), k ≤ n ∧ v3 = .int .i64 k ∧ chkL [] (l.take k) = true ∧ Below w.heap.size w wr) (fun v3 _ => n - (intOf v3).toNat)
  case atStart => exact ⟨0, Nat.zero_le _, rfl, rfl, Below.refl _ _⟩
  case round =>
    obtain ⟨k, hk, rfl, hch, ho⟩ := hrel
    have hln := HR2.out.2
    by_cases hlt : k < n
    · have hkl : k < l.length := by omega
      obtain ⟨b, o, rfl, hcs⟩ := lab_cells HL.out.lies hkl
      obtain ⟨hc0, hc1⟩ := hcs _ ho
      have hok := HS.out _ (List.getElem_mem hkl)
      have hsn := chk_snoc l [] k hkl
      have hpre := chk_pre l [] (k + 1)
      rw [hch, Bool.true_and] at hsn
      have hprev : 0 < k → ∃ y1 y2 : ByteArray, l.getD (k - 1) (ByteArray.empty, ByteArray.empty) = (y1, y2) ∧ wr.cell? ⟨b, o + (k - 1) * 2, none⟩ = some (.string y1) ∧ y1.size ≤ 300 := by
        intro h0
        have hkl1 : k - 1 < l.length := by omega
        obtain ⟨b', o', hbo, hcs'⟩ := lab_cells HL.out.lies hkl1
        simp only [Option.some.injEq, Addr.mk.injEq] at hbo
        obtain ⟨rfl, rfl, _⟩ := hbo
        have h3 := (hcs' _ ho).1
        have h4 := HS.out _ (List.getElem_mem hkl1)
        refine ⟨l[k - 1].1, l[k - 1].2, ?_, h3, h4.1⟩
        rw [List.getD_eq_getElem?_getD, List.getElem?_eq_getElem hkl1]; rfl
      generalize l[k] = x at *
      obtain ⟨x1, x2⟩ := x
      obtain ⟨hx1, hx2⟩ := hok
      simp only [] at hc0 hc1 hsn hx1 hx2
      have HO := Lib.hid (And.intro ho (And.intro hsn hpre))
      have k0 : (0 : Int) ≤ (k : Int) := by omega
      have k1 : (k : Int) < (n : Int) := by omega
      have CN : Hid (∀ W : World, Calls Try.prog 33 #[.string x1] W fun e w' => e = .returned (.bool (nameB x1.data.toList)) ∧ w' = W) := Lib.hid (fun W => (rname_any x1 W (by unfold maxLen; omega)).mono fun e w' h => ⟨h.1, h.2.symm⟩)
      have CV : Hid (∀ W : World, Calls Try.prog 34 #[.string x2] W fun e w' => e = .returned (.bool (valueB x2.data.toList)) ∧ w' = W) := Lib.hid (fun W => (rvalue_any x2 W (by unfold maxLen; omega)).mono fun e w' h => ⟨h.1, h.2.symm⟩)
      clear ho hcs hch hsn hpre hln
      have HFIN : Hid (∀ last : Bool, (ltB (if k = 0 then [] else (l.getD (k - 1) (ByteArray.empty, ByteArray.empty)).1.data.toList) x1.data.toList && nameB x1.data.toList && valueB x2.data.toList) = false → R = false) := Lib.hid (fun _ h => by rw [HR2.out.1]; exact HO.out.2.2 (by rw [HO.out.2.1]; exact h))
      have hbl : ∀ m, Below w.heap.size w (wr.drewN m) := fun m => HO.out.1.trans ⟨rfl, rfl, rfl, Nat.le_refl _, fun _ _ => rfl⟩
      have HBL := Lib.hid hbl
      clear hbl
      cases hN : nameB x1.data.toList with
      | false =>
        have hRf := HFIN.out true (by rw [hN]; simp)
        subst hRf
        rw [hN] at CN
        clear hN CV hprev HFIN
        go_wp2_with fail
        go_quiet (first | (go_at_call 33; exact Calls.quiet_of_same (CN.out _)) | (go_at_call 34; exact Calls.quiet_of_same (CV.out _)))
        go_wp2_with fail
        go_ret
        exact ⟨rfl, HBL.out _⟩
      | true =>
        rw [hN] at CN
        cases hV : valueB x2.data.toList with
        | false =>
          have hRf := HFIN.out true (by rw [hV]; simp)
          subst hRf
          rw [hV] at CV
          clear hN hV hprev HFIN
          go_wp2_with fail
          go_quiet (first | (go_at_call 33; exact Calls.quiet_of_same (CN.out _)) | (go_at_call 34; exact Calls.quiet_of_same (CV.out _)))
          go_wp2_with fail
          go_ret
          exact ⟨rfl, HBL.out _⟩
        | true =>
          rw [hV] at CV
          by_cases h0 : k = 0
          · have hnx := HO.out.2.1
            rw [if_pos h0, hN, hV, ltB_name hN] at hnx
            have HNX := Lib.hid hnx
            have hd0 : decide ((0 : Int) < (k : Int)) = false := decide_eq_false (by omega)
            have hd1 : decide (0 < k) = false := decide_eq_false (by omega)
            clear hN hV hprev HFIN hnx h0
            go_wp2_with fail
            go_quiet (first | (go_at_call 33; exact Calls.quiet_of_same (CN.out _)) | (go_at_call 34; exact Calls.quiet_of_same (CV.out _)))
            go_wp2_with fail
            go_round
            case rel => exact ⟨k + 1, by omega, by go_num, by rw [HNX.out]; rfl, HBL.out _⟩
            case measure => simp [intOf]; omega
          · obtain ⟨y1, y2, hgd, hcy, hy1⟩ := hprev (by omega)
            have hnx := HO.out.2.1
            have hfin := HFIN.out true
            rw [if_neg h0, hgd] at hfin hnx
            simp only [] at hfin hnx
            have CA : Hid (∀ W : World, Calls Try.prog 30 #[.string y1, .string x1] W fun e w' => e = .returned (.bool (ltB y1.data.toList x1.data.toList)) ∧ ∃ m, w' = W.drewN m) := Lib.hid (fun W => rahead_any y1 x1 W (by omega) (by omega))
            obtain ⟨kp, hkp⟩ : ∃ kp, k - 1 = kp := ⟨_, rfl⟩
            have hki : (k : Int) - 1 = (kp : Int) := by omega
            have kp1 : (kp : Int) < (n : Int) := by omega
            have kp0 : (0 : Int) ≤ (kp : Int) := by omega
            have kpos : decide (0 < k) = true := decide_eq_true (by omega)
            have hkw : IntKind.i64.wrap ((k : Int) - 1) = (kp : Int) := by rw [IntKind.wrap_i64]; omega
            rw [hkp] at hcy
            rw [hN, hV, Bool.and_true, Bool.and_true] at hfin hnx
            cases hA : ltB y1.data.toList x1.data.toList with
            | false =>
              have hRf := hfin (by rw [hA])
              subst hRf
              rw [hA] at CA
              clear hN hV hprev HFIN hnx hfin hA hgd hkp h0
              go_wp2_with fail
              go_quiet (first | (go_at_call 33; exact Calls.quiet_of_same (CN.out _)) | (go_at_call 34; exact Calls.quiet_of_same (CV.out _)) | (go_at_call 30; exact Calls.quiet_of (CA.out _)))
              go_wp2_with fail
              go_ret
              exact ⟨rfl, HBL.out _⟩
            | true =>
              rw [hA] at hnx CA
              have HNX := Lib.hid hnx
              clear hN hV hprev HFIN hnx hfin hA hgd hkp h0
              go_wp2_with fail
              go_quiet (first | (go_at_call 33; exact Calls.quiet_of_same (CN.out _)) | (go_at_call 34; exact Calls.quiet_of_same (CV.out _)) | (go_at_call 30; exact Calls.quiet_of (CA.out _)))
              go_wp2_with fail
              go_round
              case rel => exact ⟨k + 1, by omega, by go_num, by rw [HNX.out], HBL.out _⟩
              case measure => simp [intOf]; omega
    · obtain rfl : k = n := by omega
      rw [List.take_of_length_le (by omega)] at hch
      have hRt : R = true := by rw [HR2.out.1]; exact hch
      subst hRt
      have HO := Lib.hid ho
      clear hch hln ho
      go_wp2_with fail
      go_ret
      exact ⟨rfl, HO.out⟩
end Go.Proofs.Ytgnifdkoaajboaa.FrW
