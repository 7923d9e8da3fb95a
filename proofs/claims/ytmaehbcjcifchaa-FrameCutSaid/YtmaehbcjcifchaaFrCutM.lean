/-
  FrameCut: THE PLAIN LAW.
-/
import Derived.Test.YtmaehbcjcifchaaFrLawJ
namespace Go.Proofs.Ytmaehbcjcifchaa.FrW
set_option linter.unusedVariables false
open Go.RowKit CrcM CrcW FrM
def eAt (l : List (List UInt8)) (j : Nat) : Nat := (flat (l.take j)).length
theorem flat_app (a b : List (List UInt8)) : flat (a ++ b) = flat a ++ flat b := by simp [flat]
theorem eAt_succ {l : List (List UInt8)} {j : Nat} (h : j < l.length) : eAt l (j + 1) = eAt l j + (frm l[j]).length := by
  have hs1 : l.take (j + 1) = l.take j ++ [l[j]] := by rw [List.take_add_one, List.getElem?_eq_getElem h]; rfl
  unfold eAt
  rw [hs1, flat_snoc, List.length_append]
theorem eAt_all {l : List (List UInt8)} : eAt l l.length = (flat l).length := by unfold eAt; rw [List.take_length]
theorem eAt_le {l : List (List UInt8)} (h : leAll l) (hn : l.length ≤ 20) (j : Nat) : eAt l j ≤ 8280 := by
  have h1 := flat_le (l.take j) (fun b hb => h b (List.mem_of_mem_take hb))
  have h2 : (l.take j).length ≤ 20 := by rw [List.length_take]; omega
  unfold eAt; omega
def ends (l : List (List UInt8)) (k : Nat) : List Value := (List.range (k + 1)).map fun j => .int .i64 (eAt l j : Int)
theorem ends_zero (l : List (List UInt8)) : ends l 0 = [.int .i64 0] := rfl
theorem ends_succ (l : List (List UInt8)) (k : Nat) : ends l (k + 1) = ends l k ++ [.int .i64 (eAt l (k + 1) : Int)] := by
  unfold ends; rw [List.range_succ, List.map_append]; rfl
theorem ends_at (l : List (List UInt8)) (k j : Nat) (h : j ≤ k) : (ends l k)[j]? = some (.int .i64 (eAt l j : Int)) := by
  unfold ends; rw [List.getElem?_map, List.getElem?_range (by omega)]; rfl
theorem cut_law (l : List (List UInt8)) (hl : leAll l) (j m : Nat) (hj : j ≤ l.length) (h1 : eAt l j ≤ m) (h2 : m ≤ (flat l).length) (h3 : j < l.length → m < eAt l (j + 1)) :
    ∃ R, sp ((flat l).take m) 400 = (l.take j, R, if m = eAt l j then 0 else 1) ∧ R.length + eAt l j = m := by
  have hsplit : flat l = flat (l.take j) ++ flat (l.drop j) := by rw [← flat_app, List.take_append_drop]
  have htk : (flat l).take m = flat (l.take j) ++ (flat (l.drop j)).take (m - eAt l j) := by
    rw [hsplit, List.take_append, List.take_of_length_le (show (flat (l.take j)).length ≤ m from h1)]; rfl
  have hok : ∀ b ∈ l.take j, b.length < 9223372036854775808 ∧ (b.length : Int) ≤ 400 := fun b hb => by
    have := hl b (List.mem_of_mem_take hb); omega
  rw [htk, sp_flat 400 _ _ hok]
  by_cases hm : m = eAt l j
  · refine ⟨[], ?_, by simp; omega⟩
    rw [if_pos hm, hm, Nat.sub_self, List.take_zero, sp_nil, List.append_nil]
  · rw [if_neg hm]
    have hjl : j < l.length := by
      rcases Nat.lt_or_ge j l.length with h | h
      · exact h
      · have e : j = l.length := by omega
        subst e
        rw [eAt_all] at hm h1
        omega
    have h4 := h3 hjl
    rw [eAt_succ hjl] at h4
    have hd : flat (l.drop j) = frm l[j] ++ flat (l.drop (j + 1)) := by
      unfold flat; rw [List.drop_eq_getElem_cons hjl, List.flatMap_cons]
    have hx : (flat (l.drop j)).take (m - eAt l j) = (frm l[j]).take (m - eAt l j) := by
      rw [hd, List.take_append_of_le_length (by omega)]
    have hxl : ((frm l[j]).take (m - eAt l j)).length = m - eAt l j := by rw [List.length_take]; omega
    have hb := hl l[j] (List.getElem_mem hjl)
    have hg := getF_cut l[j] (m - eAt l j) 400 (by omega) (by omega) (by omega)
    refine ⟨(frm l[j]).take (m - eAt l j), ?_, by rw [hxl]; omega⟩
    rw [hx, sp_not _ 400 (by intro e; rw [e] at hxl; simp at hxl; omega) (by rw [hg]; show (1 : Nat) ≠ 0; omega), hg, List.append_nil]
theorem comes_take {α : Type} {w : World} {size : Nat} {encA : α → List Value} {okA : α → Prop} {A : Option Addr} {n c : Nat} {l : List α} (h : Comes w size encA okA A n c l) (j : Nat) (hj : j ≤ n) : Comes w size encA okA A j c (l.take j) :=
  ⟨by rw [List.length_take, h.len]; omega, Nat.le_trans hj h.le, h.cap, fun i x hi => h.lies i x (by
    rw [List.getElem?_take] at hi
    split at hi
    · exact hi
    · cases hi), fun x hx => h.ok x (List.mem_of_mem_take hx)⟩
end Go.Proofs.Ytmaehbcjcifchaa.FrW
