/-
  strings.Cut AT ONE BYTE; label.quoted: THE WALKS.
-/
import Derived.Test.YtgnifdkoaajboaaLbOf
import Derived.Lib.Bytealg
import Derived.Laws.Externs
import Derived.BigRegion
namespace Go.Proofs.Ytgnifdkoaajboaa.FrW
set_option linter.unusedVariables false
open Go.RowKit FrM LabM LbM LabW
theorem ct_none : ∀ (e : UInt8) (l : List UInt8), ct e l = none → Lib.indexByte l e = -1
  | _, [], _ => rfl
  | e, c :: r, h => by
    unfold ct at h
    unfold Lib.indexByte
    by_cases hc : c = e
    · rw [if_pos hc] at h; cases h
    · rw [if_neg hc] at h
      have h2 : ct e r = none := by
        cases hr : ct e r with
        | none => rfl
        | some p => rw [hr] at h; cases h
      have h3 := ct_none e r h2
      rw [h3]
      simp [hc]
theorem ct_some : ∀ (e : UInt8) (l n r : List UInt8), ct e l = some (n, r) → Lib.indexByte l e = (n.length : Int) ∧ l = n ++ e :: r
  | _, [], _, _, h => by cases h
  | e, c :: t, n, r, h => by
    unfold ct at h
    unfold Lib.indexByte
    by_cases hc : c = e
    · rw [if_pos hc] at h
      injection h with h; injection h with h1 h2
      subst h1 h2 hc
      simp
    · rw [if_neg hc] at h
      cases hr : ct e t with
      | none => rw [hr] at h; cases h
      | some p =>
        obtain ⟨a, b⟩ := p
        rw [hr] at h
        injection h with h; injection h with h1 h2
        subst h1 h2
        obtain ⟨h3, h4⟩ := ct_some e t a b hr
        rw [h3, h4]
        have : ¬ (a.length : Int) = -1 := by omega
        simp [hc, this]
set_option maxHeartbeats 1000000 in
set_option maxRecDepth 20000 in
theorem xbyte_any (s : ByteArray) (c : Int) (w : World) :
    Calls Try.prog 57 #[.string s, .int .u8 c] w fun e w' => e = .returned (.int .i64 (Lib.indexByte s.data.toList c.toNat.toUInt8)) ∧ w' = w := by
  go_enter Try.func57, Try.ntmps57
  go_wp2
  rw [run_callFunc_extern Try.func61 (by kernel_rfl) (by kernel_rfl) (by kernel_rfl) (e := Extern.BytealgIndexByte.indexByte) (by kernel_rfl), Lib.run_indexByteString]
  simp only [Result.andThen]
  rw [Oper.upon_value]
  go_wp2
  go_ret
  exact ⟨rfl, rfl⟩
set_option maxHeartbeats 2000000 in
set_option maxRecDepth 20000 in
theorem xone_any (s : ByteArray) (c : UInt8) (w : World) :
    Calls Try.prog 56 #[.string s, .string ⟨#[c]⟩] w fun e w' => e = .returned (.int .i64 (Lib.indexByte s.data.toList c)) ∧ w' = w := by
  have HX := Lib.hid (fun x W => xbyte_any s x W)
  go_enter Try.func56, Try.ntmps56
  go_wp2_with (go_at_call 57; refine (HX.out _ _).mono ?_; rintro e w' ⟨rfl, rfl⟩)
  · have h : ([c] == s.toList) = true := by assumption
    go_ret
    refine ⟨?_, rfl⟩
    have e : s.data.toList = [c] := by rw [← ByteArray.toList_eq]; exact (beq_iff_eq.1 h).symm
    rw [e]
    simp [Lib.indexByte]
  · go_ret
    exact ⟨by simp; rfl, rfl⟩
/-- What strings.Cut hands back. -/
def cutV (e : UInt8) (l : List UInt8) : Value := match ct e l with
  | none => .tuple #[.string (bs l), .string ⟨#[]⟩, .bool false]
  | some (n, r) => .tuple #[.string (bs n), .string (bs r), .bool true]
set_option maxHeartbeats 2000000 in
set_option maxRecDepth 20000 in
theorem cutl_any (c : UInt8) (l : List UInt8) (w : World) (hl : l.length ≤ 2199023255552) :
    Calls Try.prog 54 #[.string (bs l), .string ⟨#[c]⟩] w fun e w' => e = .returned (cutV c l) ∧ Below w.heap.size w w' := by
  have HX := Lib.hid (fun W => xone_any (bs l) c W)
  rw [show (bs l).data.toList = l from bs_list l] at HX
  unfold cutV
  have hz := bs_size l
  cases hc : ct c l with
  | none =>
    rw [ct_none c l hc] at HX
    simp only []
    obtain ⟨X, hX⟩ : ∃ X, bs l = X := ⟨_, rfl⟩
    rw [hX] at HX ⊢
    clear hX hc hz
    go_enter Try.func54, Try.ntmps54
    go_wp2_with fail
    refine (HX.out _).mono ?_
    rintro e w' ⟨rfl, rfl⟩
    go_wp2_with fail
    go_ret3
    exact ⟨rfl, Below.refl _ _⟩
  | some p =>
    obtain ⟨n, r⟩ := p
    obtain ⟨h1, h2⟩ := ct_some c l n r hc
    rw [h1] at HX
    simp only []
    have hlen : l.length = n.length + 1 + r.length := by rw [h2]; simp; omega
    have hs1 := slice_to (P := Try.prog) Try.underlying9 (bs l) (n.length : Int) n.length rfl (by omega)
    have hs2 := slice_from (P := Try.prog) Try.underlying9 (bs l) ((n.length : Int) + 1) (n.length + 1) (by omega) (by omega)
    rw [bs_extract] at hs1 hs2
    simp only [List.drop_zero, Nat.sub_zero] at hs1
    rw [show l.take n.length = n by rw [h2]; simp] at hs1
    rw [hz, List.take_of_length_le (by rw [List.length_drop]; omega), show l.drop (n.length + 1) = r by rw [h2]; simp] at hs2
    obtain ⟨q, hq⟩ : ∃ q, n.length = q := ⟨_, rfl⟩
    rw [hq] at hs1 hs2 HX hlen
    have q0 : (0 : Int) ≤ (q : Int) := by omega
    have q1 : (q : Int) ≤ (l.length : Int) := by omega
    have q2 : (0 : Int) ≤ (q : Int) + 1 := by omega
    have q3 : (q : Int) + 1 ≤ (l.length : Int) := by omega
    obtain ⟨z, hzz⟩ : ∃ z, l.length = z := ⟨_, rfl⟩
    rw [hzz] at q1 q3 hz hl
    obtain ⟨X, hX⟩ : ∃ X, bs l = X := ⟨_, rfl⟩
    obtain ⟨Y, hY⟩ : ∃ Y, bs n = Y := ⟨_, rfl⟩
    obtain ⟨Z, hZ⟩ : ∃ Z, bs r = Z := ⟨_, rfl⟩
    rw [hX] at HX hs1 hs2 hz ⊢
    rw [hY] at hs1 ⊢
    rw [hZ] at hs2 ⊢
    clear hX hY hZ hc h1 h2 hq hlen hzz
    go_enter Try.func54, Try.ntmps54
    go_wp2_with fail
    refine (HX.out _).mono ?_
    rintro e w' ⟨rfl, rfl⟩
    go_wp2_with fail
    go_region
    go_wp2_with fail
    go_ret3
    exact ⟨rfl, ⟨rfl, rfl, rfl, Nat.le_refl _, fun _ _ => rfl⟩⟩
set_option maxHeartbeats 1000000 in
theorem cut_any (c : UInt8) (l : List UInt8) (w : World) (hl : l.length ≤ 2199023255552) :
    Calls Try.prog 43 #[.string (bs l), .string ⟨#[c]⟩] w fun e w' => e = .returned (cutV c l) ∧ Below w.heap.size w w' := by
  have HX := Lib.hid (fun W => cutl_any c l W hl)
  unfold cutV at HX ⊢
  cases hc : ct c l with
  | none =>
    rw [hc] at HX
    simp only [] at HX ⊢
    obtain ⟨X, hX⟩ : ∃ X, bs l = X := ⟨_, rfl⟩
    rw [hX] at HX ⊢
    clear hX hc hl
    go_enter Try.func43, Try.ntmps43
    go_wp2_with fail
    refine (HX.out _).mono ?_
    rintro e w' ⟨rfl, hb⟩
    go_wp2_with fail
    go_ret3
    exact ⟨rfl, hb⟩
  | some p =>
    obtain ⟨n, r⟩ := p
    rw [hc] at HX
    simp only [] at HX ⊢
    obtain ⟨X, hX⟩ : ∃ X, bs l = X := ⟨_, rfl⟩
    obtain ⟨Y, hY⟩ : ∃ Y, bs n = Y := ⟨_, rfl⟩
    obtain ⟨Z, hZ⟩ : ∃ Z, bs r = Z := ⟨_, rfl⟩
    rw [hX, hY, hZ] at HX
    rw [hX, hY, hZ]
    clear hX hY hZ hc hl
    go_enter Try.func43, Try.ntmps43
    go_wp2_with fail
    refine (HX.out _).mono ?_
    rintro e w' ⟨rfl, hb⟩
    go_wp2_with fail
    go_ret3
    exact ⟨rfl, hb⟩
end Go.Proofs.Ytgnifdkoaajboaa.FrW
