/-
  FRAMES: MANY OF THEM, AND HEADS, THE PLAIN LAW.
-/
import Derived.Test.YtmaehbcjcifchaaFrSplit
import Derived.Test.YtmaehbcjcifchaaFrHead
namespace Go.Proofs.Ytmaehbcjcifchaa.FrW
set_option linter.unusedVariables false
open Go.RowKit CrcM CrcW FrM
theorem split_fuel (most : Int) : ∀ (n : Nat) (s : List UInt8) (f f' : Nat), s.length ≤ n → s.length < f → s.length < f' → splitF f s most = splitF f' s most := by
  intro n
  induction n with
  | zero =>
    intro s f f' hn hf hf'
    have : s = [] := List.eq_nil_of_length_eq_zero (by omega)
    subst this
    cases f with
    | zero => omega
    | succ f => cases f' with
      | zero => omega
      | succ f' => rw [splitF_succ, splitF_succ, if_pos rfl, if_pos rfl]
  | succ n ih =>
    intro s f f' hn hf hf'
    cases f with
    | zero => omega
    | succ f => cases f' with
      | zero => omega
      | succ f' =>
        rw [splitF_succ, splitF_succ]
        by_cases hs : s = []
        · rw [if_pos hs, if_pos hs]
        rw [if_neg hs, if_neg hs]
        by_cases hg : (getF s most).2.2 = 0
        · rw [if_pos hg, if_pos hg]
          have hlt := evNext_len (most := most) (s := s) ⟨hs, hg⟩
          have e := ih (getF s most).2.1 f f' (by show (evNext most s).length ≤ n; omega) (by show (evNext most s).length < f; omega) (by show (evNext most s).length < f'; omega)
          rw [e]
        · rw [if_neg hg, if_neg hg]
/-- Frames, one behind the other. -/
def flat (L : List (List UInt8)) : List UInt8 := L.flatMap frm
def sp (s : List UInt8) (most : Int) : List (List UInt8) × List UInt8 × Nat := splitF (s.length + 1) s most
theorem sp_nil (most : Int) : sp [] most = ([], [], 0) := rfl
theorem sp_cons (b r : List UInt8) (most : Int) (h : b.length < 9223372036854775808) (hm : (b.length : Int) ≤ most) : sp (frm b ++ r) most = (b :: (sp r most).1, (sp r most).2) := by
  unfold sp
  have hne : frm b ++ r ≠ [] := fun e => by
    have h1 := congrArg List.length e
    have := frm_pos b
    rw [List.length_append, List.length_nil] at h1
    omega
  have hg := getF_put b r most h hm
  rw [splitF_succ, if_neg hne, hg, if_pos rfl]
  simp only []
  have hl : (frm b ++ r).length = (frm b).length + r.length := List.length_append
  have := frm_pos b
  rw [split_fuel most r.length r (frm b ++ r).length (r.length + 1) (Nat.le_refl _) (by omega) (by omega)]
theorem sp_flat (most : Int) (s : List UInt8) : ∀ (L : List (List UInt8)), (∀ b ∈ L, b.length < 9223372036854775808 ∧ (b.length : Int) ≤ most) → sp (flat L ++ s) most = (L ++ (sp s most).1, (sp s most).2)
  | [], _ => rfl
  | b :: L, h => by
    have e : flat (b :: L) ++ s = frm b ++ (flat L ++ s) := by simp [flat]
    rw [e, sp_cons b _ most (h b (by simp)).1 (h b (by simp)).2, sp_flat most s L (fun x hx => h x (by simp [hx]))]
    rfl
theorem sp_not (s : List UInt8) (most : Int) (hs : s ≠ []) (h : (getF s most).2.2 ≠ 0) : sp s most = ([], s, (getF s most).2.2) := by
  unfold sp; rw [splitF_succ, if_neg hs, if_neg h]
/-- A head is told. -/
theorem open_head (m r : List UInt8) (g f : Int) : openF (hd m g f ++ ctail (hd m g f) ++ r) m = if 3 < (hdB g).toNat ∨ 3 < (hdB f).toNat then (0, 0, [], 10) else if (hdB g).toNat = 0 then (0, 0, [], 9) else (((hdB g).toNat : Int), ((hdB f).toNat : Int), r, 0) := by
  have hl : (hd m g f).length = m.length + 2 := by simp [hd]
  have hc := ctail_length (hd m g f)
  have e1 : (hd m g f ++ ctail (hd m g f) ++ r).take (m.length + 2) = hd m g f := by
    rw [List.append_assoc, ← hl]; exact List.take_left
  have e2 : ((hd m g f ++ ctail (hd m g f) ++ r).drop (m.length + 2)).take 4 = ctail (hd m g f) := by
    rw [List.append_assoc, ← hl, List.drop_left, ← hc]; exact List.take_left
  have e3 : (hd m g f ++ ctail (hd m g f) ++ r).take m.length = m := by
    unfold hd; rw [List.append_assoc, List.append_assoc]; exact List.take_left
  have e4 : (hd m g f ++ ctail (hd m g f) ++ r).drop (m.length + 6) = r := by
    rw [show m.length + 6 = (hd m g f ++ ctail (hd m g f)).length by rw [List.length_append, hl, hc]]
    exact List.drop_left
  have e5 : (hd m g f ++ ctail (hd m g f) ++ r).getD m.length 0 = hdB g := by
    unfold hd; simp
  have e6 : (hd m g f ++ ctail (hd m g f) ++ r).getD (m.length + 1) 0 = hdB f := by
    unfold hd; simp
  unfold openF
  rw [e1, e2, e3, e4, e5, e6, if_neg (by simp only [List.length_append, hl, hc]; omega), if_pos ⟨rfl, rfl⟩]
theorem head_len (m : List UInt8) (g f : Int) : (hd m g f ++ ctail (hd m g f)).length = m.length + 6 := by rw [List.length_append, ctail_length]; simp [hd]
end Go.Proofs.Ytmaehbcjcifchaa.FrW
