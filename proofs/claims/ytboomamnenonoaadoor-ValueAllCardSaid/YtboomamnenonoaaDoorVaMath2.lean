/-
  VALUES AS BITS: ALL OF THEM, THE PLAIN LAW.
-/
import Derived.Test.YtboomamnenonoaaDoorVaMath
namespace Go.Proofs.YtboomamnenonoaaDoor.VaM
set_option linter.unusedVariables false
open Go.RowKit BitsM
def okU (v : Nat) : Prop := v < 18446744073709551616
def bitsV : Sv → List Nat → List Bool
  | _, [] => []
  | s, v :: l => putV s v ++ bitsV (aftV s v) l
def stV : Sv → List Nat → Sv
  | s, [] => s
  | s, v :: l => stV (aftV s v) l
theorem bitsV_append (s : Sv) (a b : List Nat) : bitsV s (a ++ b) = bitsV s a ++ bitsV (stV s a) b := by
  induction a generalizing s with
  | nil => rfl
  | cons t a ih => rw [List.cons_append, bitsV, bitsV, stV, ih, List.append_assoc]
theorem stV_append (s : Sv) (a b : List Nat) : stV s (a ++ b) = stV (stV s a) b := by
  induction a generalizing s with
  | nil => rfl
  | cons t a ih => rw [List.cons_append, stV, stV, ih]
theorem bitsV_snoc (s : Sv) (a : List Nat) (t : Nat) : bitsV s (a ++ [t]) = bitsV s a ++ putV (stV s a) t := by
  rw [bitsV_append]; simp [bitsV]
theorem stV_snoc (s : Sv) (a : List Nat) (t : Nat) : stV s (a ++ [t]) = aftV (stV s a) t := by
  rw [stV_append]; rfl
theorem okV_all {s : Sv} {l : List Nat} (hs : okV s) (hl : ∀ t ∈ l, okU t) : okV (stV s l) := by
  induction l generalizing s with
  | nil => exact hs
  | cons t l ih => exact ih (okV_aft hs (hl t (by simp))) (fun x hx => hl x (by simp [hx]))
theorem stV_N (s : Sv) (l : List Nat) : (stV s l).1 = s.1 + l.length := by
  induction l generalizing s with
  | nil => rfl
  | cons t l ih => rw [stV, ih, aftV_N, List.length_cons]; omega
theorem bitsV_len (s : Sv) (l : List Nat) : (bitsV s l).length ≤ 78 * l.length := by
  induction l generalizing s with
  | nil => simp [bitsV]
  | cons t l ih => unfold bitsV; rw [List.length_append, List.length_cons]; have := ih (aftV s t); have := (putV_len s t).1; omega
/-- So many values out of bits, and what is left. -/
def readV : List Bool → Nat → Sv → Option (List Nat × List Bool)
  | b, 0, _ => some ([], b)
  | b, n + 1, s => match getV b s with
    | none => none
    | some (t, k) => (readV (b.drop k) n (aftV s t)).map fun x : List Nat × List Bool => (t :: x.1, x.2)
theorem read_all (s : Sv) (l : List Nat) (r : List Bool) (hs : okV s) (hl : ∀ t ∈ l, okU t) : readV (bitsV s l ++ r) l.length s = some (l, r) := by
  induction l generalizing s with
  | nil => rfl
  | cons t l ih =>
    have ht := hl t (by simp)
    unfold bitsV
    rw [List.length_cons, List.append_assoc]
    unfold readV
    rw [get_put s t hs ht]
    simp only [List.drop_left]
    rw [ih _ (okV_aft hs ht) (fun x hx => hl x (by simp [hx]))]
    rfl
theorem all_read (b : List Bool) (n : Nat) (s : Sv) (l : List Nat) (r : List Bool) (hs : okV s) (h : readV b n s = some (l, r)) : l.length = n ∧ b = bitsV s l ++ r ∧ ∀ t ∈ l, okU t := by
  induction n generalizing b s l with
  | zero =>
    unfold readV at h
    injection h with h
    injection h with h1 h2
    subst h1 h2
    exact ⟨rfl, rfl, fun t ht => by simp at ht⟩
  | succ n ih =>
    unfold readV at h
    cases hg : getV b s with
    | none => rw [hg] at h; cases h
    | some x =>
      obtain ⟨t, k⟩ := x
      rw [hg] at h
      simp only [] at h
      obtain ⟨g1, g2, g3, g4⟩ := put_get b s t k hs hg
      cases hr : readV (b.drop k) n (aftV s t) with
      | none => rw [hr] at h; cases h
      | some y =>
        obtain ⟨l', r'⟩ := y
        rw [hr] at h
        simp only [Option.map_some, Option.some.injEq, Prod.mk.injEq] at h
        obtain ⟨h1, h2⟩ := h
        subst h1 h2
        obtain ⟨i1, i2, i3⟩ := ih _ _ _ (okV_aft hs g1) hr
        refine ⟨by simp [i1], ?_, fun x hx => ?_⟩
        · unfold bitsV
          rw [List.append_assoc, ← i2, ← g2, List.take_append_drop]
        · rcases List.mem_cons.1 hx with hx | hx
          · rw [hx]; exact g1
          · exact i3 x hx
theorem byteB_msb (x : UInt8) : byteB (msb x.toNat 8) = x := by
  apply UInt8.toNat_inj.1
  rw [byteB_toNat _ (by rw [msb_length]; omega), numB_msb, msb_length]
  have := x.toNat_lt
  rw [Nat.mod_eq_of_lt (by omega)]; simp
theorem pack_unpack (l : List UInt8) : pack (unpack l) = l := by
  refine snocInd (P := fun l => pack (unpack l) = l) rfl (fun l x ih => ?_) l
  have e : unpack [x] = msb x.toNat 8 := by simp [unpack]
  rw [unpack_append, e, pack_new _ _ (by rw [unpack_length]; omega) (by rw [msb_length]; omega) (by rw [msb_length]; omega), ih, byteB_msb]
theorem pack_clean (l : List UInt8) (b r : List Bool) (h : unpack l = b ++ r) (hr : (r.all (! ·) && decide (r.length < 8)) = true) : pack b = l := by
  rw [Bool.and_eq_true, decide_eq_true_iff] at hr
  have e : r = List.replicate r.length false := List.eq_replicate_of_mem fun x hx => by
    have := List.all_eq_true.1 hr.1 x hx
    simpa using this
  have hz := congrArg List.length h
  rw [unpack_length, List.length_append] at hz
  rw [← pack_unpack l, h, e]
  exact (pack_pad b _ hr.2 (by omega)).symm
/-- At first. -/
def v0 : Sv := (0, 0, 64, 0)
theorem okV0 : okV v0 := ⟨show (0 : Nat) < 18446744073709551616 by omega, .inl ⟨rfl, rfl⟩⟩
/-! Values that are all turned by as much. -/
theorem xor_turn (a b d : Nat) : (a ^^^ d) ^^^ (b ^^^ d) = a ^^^ b := by
  rw [Nat.xor_comm b d, ← Nat.xor_assoc, Nat.xor_assoc a d d, Nat.xor_self, Nat.xor_zero]
theorem turned_bits (d : Nat) : ∀ (l : List Nat) (N V L T : Nat), 1 ≤ N → bitsV (N, V ^^^ d, L, T) (l.map (· ^^^ d)) = bitsV (N, V, L, T) l
  | [], _, _, _, _, _ => rfl
  | t :: l, N, V, L, T, h1 => by
    have hn : ¬ N = 0 := by omega
    have hi : ∀ x, inB (N, V ^^^ d, L, T) x = inB (N, V, L, T) x := fun x => rfl
    have e1 : putV (N, V ^^^ d, L, T) (t ^^^ d) = putV (N, V, L, T) t := by
      unfold putV; simp only [xor_turn, hi, if_neg hn]
    rw [List.map_cons]
    unfold bitsV
    rw [e1]
    congr 1
    by_cases hc : t ^^^ V = 0 ∨ inB (N, V, L, T) (t ^^^ V) = true
    · have e2 : aftV (N, V ^^^ d, L, T) (t ^^^ d) = (N + 1, t ^^^ d, L, T) := by
        unfold aftV; simp only [xor_turn, hi]; rw [if_pos (.inr hc)]
      have e3 : aftV (N, V, L, T) t = (N + 1, t, L, T) := by
        unfold aftV; rw [if_pos (.inr hc)]
      rw [e2, e3, turned_bits d l (N + 1) t L T (by omega)]
    · have hc' : ¬ (N = 0 ∨ t ^^^ V = 0 ∨ inB (N, V, L, T) (t ^^^ V) = true) := by
        rintro (h | h)
        · exact hn h
        · exact hc h
      have e2 : aftV (N, V ^^^ d, L, T) (t ^^^ d) = (N + 1, t ^^^ d, ld (t ^^^ V), tr (t ^^^ V)) := by
        unfold aftV; simp only [xor_turn, hi]; rw [if_neg hc']
      have e3 : aftV (N, V, L, T) t = (N + 1, t, ld (t ^^^ V), tr (t ^^^ V)) := by
        unfold aftV; rw [if_neg hc']
      rw [e2, e3, turned_bits d l (N + 1) t _ _ (by omega)]
theorem turned_all (d : Nat) (l : List Nat) : (bitsV v0 (l.map (· ^^^ d))).length = (bitsV v0 l).length ∧ (bitsV v0 (l.map (· ^^^ d))).drop 64 = (bitsV v0 l).drop 64 := by
  cases l with
  | nil => exact ⟨rfl, rfl⟩
  | cons t l =>
    rw [List.map_cons]
    show (msb (t ^^^ d) 64 ++ bitsV (1, t ^^^ d, 64, 0) (l.map (· ^^^ d))).length = (msb t 64 ++ bitsV (1, t, 64, 0) l).length ∧ (msb (t ^^^ d) 64 ++ bitsV (1, t ^^^ d, 64, 0) (l.map (· ^^^ d))).drop 64 = (msb t 64 ++ bitsV (1, t, 64, 0) l).drop 64
    rw [turned_bits d l 1 t 64 0 (by omega), drop_msb, drop_msb]
    simp [msb_length]
theorem pack_at (b c : List Bool) (h : b.length = c.length) (hd : b.drop 64 = c.drop 64) (i : Nat) (hi : 8 ≤ i) : (pack b)[i]? = (pack c)[i]? := by
  unfold pack
  rw [List.getElem?_map, List.getElem?_map, h]
  cases he : (List.range ((c.length + 7) / 8))[i]? with
  | none => rfl
  | some j =>
    obtain ⟨hj, he⟩ := List.getElem?_eq_some_iff.1 he
    rw [List.getElem_range] at he
    subst he
    have e : 8 * i = 64 + (8 * i - 64) := by omega
    show some (byteB ((b.drop (8 * i)).take 8)) = some (byteB ((c.drop (8 * i)).take 8))
    rw [e, ← List.drop_drop, ← List.drop_drop, hd]
/-! The same value again and again. -/
theorem same_state (v : Nat) : ∀ k : Nat, stV v0 (List.replicate (k + 1) v) = (k + 1, v, 64, 0)
  | 0 => rfl
  | k + 1 => by
    rw [List.replicate_succ', stV_snoc, same_state v k]
    unfold aftV
    rw [if_pos (.inr (.inl (Nat.xor_self v)))]
theorem same_len (v : Nat) : ∀ k : Nat, (bitsV v0 (List.replicate (k + 1) v)).length = 64 + k
  | 0 => by
    show (msb v 64 ++ []).length = 64
    rw [List.append_nil, msb_length]
  | k + 1 => by
    rw [List.replicate_succ', bitsV_snoc, List.length_append, same_len v k, same_state v k]
    have e : putV (k + 1, v, 64, 0) v = [false] := by
      unfold putV; rw [if_neg (by show ¬ k + 1 = 0; omega), if_pos (Nat.xor_self v)]
    rw [e]; simp; omega
/-! Read as a whole. -/
def readB (S : List Bool) (n : Int) : Option (List Nat) :=
  if n < 0 ∨ 10000 < n then none else (readV S n.toNat v0).bind fun x : List Nat × List Bool => if (x.2.all (! ·) && decide (x.2.length < 8)) = true then some x.1 else none
theorem read_back (l : List Nat) (hl : ∀ t ∈ l, okU t) (hn : l.length ≤ 10000) : readB (unpack (pack (bitsV v0 l))) (l.length : Int) = some l := by
  unfold readB
  rw [if_neg (by omega), Int.toNat_natCast, unpack_pack, read_all v0 l _ okV0 hl]
  show (if ((zeros _).all (! ·) && decide ((zeros _).length < 8)) = true then some l else none) = some l
  rw [if_pos]
  rw [zeros_all, Bool.true_and]
  simp [zeros]; omega
theorem read_only (B : ByteArray) (n : Int) (l : List Nat) (h : readB (unpack B.data.toList) n = some l) : (⟨(pack (bitsV v0 l)).toArray⟩ : ByteArray) = B ∧ (l.length : Int) = n ∧ (∀ t ∈ l, okU t) ∧ l.length ≤ 10000 := by
  unfold readB at h
  split at h
  · cases h
  rename_i hn
  cases hr : readV (unpack B.data.toList) n.toNat v0 with
  | none => rw [hr] at h; cases h
  | some x =>
    obtain ⟨l', r⟩ := x
    rw [hr] at h
    change (if (r.all (! ·) && decide (r.length < 8)) = true then some l' else none) = some l at h
    split at h
    · rename_i hc
      injection h with h
      subst h
      obtain ⟨h1, h2, h3⟩ := all_read _ _ _ _ _ okV0 hr
      have := pack_clean _ _ _ h2 hc
      exact ⟨by rw [this], by omega, h3, by omega⟩
    · cases h
end Go.Proofs.YtboomamnenonoaaDoor.VaM
