/-
  A READER THAT IS READ, BESIDE BLOCKS OF THE CALL'S OWN.
-/
import Derived.Test.YtboomamnenonoaaDoorBitsOne
namespace Go.Proofs.YtboomamnenonoaaDoor.BitsW
set_option linter.unusedVariables false
open Go.RowKit Go.Shelf BitsM
/-- Since w: the reader br of s stands at p; the blocks L of the call's own stand; all else is as it was. -/
structure RM (w W : World) (br : Nat) (s : ByteArray) (p : Nat) (L : List (Nat × Obj)) : Prop where
  rd : ReaderAt W br s p
  own : ∀ x ∈ L, W.heap[x.1]? = some x.2 ∧ w.heap.size ≤ x.1 ∧ x.1 ≠ br
  old : ∀ k, k < w.heap.size → k ≠ br → W.heap[k]? = w.heap[k]?
  size : w.heap.size ≤ W.heap.size
  os : W.os = w.os
  tape : W.tape = w.tape
  output : W.output = w.output
theorem RM.start {w : World} {br : Nat} {s : ByteArray} {p : Nat} (h : ReaderAt w br s p) : RM w w br s p [] :=
  ⟨h, fun x hx => by simp at hx, fun _ _ _ => rfl, Nat.le_refl _, rfl, rfl, rfl⟩
theorem RM.lt {w W : World} {br : Nat} {s : ByteArray} {p : Nat} {L : List (Nat × Obj)} (h : RM w W br s p L) : br < W.heap.size := (Array.getElem?_eq_some_iff.1 h.rd).1
theorem RM.below {w W W' : World} {br : Nat} {s : ByteArray} {p : Nat} {L : List (Nat × Obj)} (h : RM w W br s p L) (hb : Below W.heap.size W W') : RM w W' br s p L := by
  have hs := h.size
  exact ⟨(hb.block _ h.lt).trans h.rd, fun x hx => ⟨(hb.block _ (Array.getElem?_eq_some_iff.1 (h.own x hx).1).1).trans (h.own x hx).1, (h.own x hx).2⟩,
    fun k hk h3 => (hb.block k (by omega)).trans (h.old k hk h3), Nat.le_trans hs hb.size, hb.os.trans h.os, hb.tape.trans h.tape, hb.output.trans h.output⟩
theorem RM.new {w W W' : World} {br : Nat} {s : ByteArray} {p : Nat} {L : List (Nat × Obj)} {o : Obj} (h : RM w W br s p L) (hb : Below W.heap.size W W') (hx : W'.heap[W.heap.size]? = some o) : RM w W' br s p ((W.heap.size, o) :: L) := by
  have h' := h.below hb
  refine ⟨h'.rd, fun x hx' => ?_, h'.old, h'.size, h'.os, h'.tape, h'.output⟩
  rcases List.mem_cons.1 hx' with hp | hp
  · rw [hp]; exact ⟨hx, h.size, fun e => by have := h.lt; simp at e; omega⟩
  · exact h'.own x hp
theorem RM.alloc {w W : World} {br : Nat} {s : ByteArray} {p : Nat} {L : List (Nat × Obj)} (h : RM w W br s p L) (o : Obj) : RM w (W.alloc o) br s p ((W.heap.size, o) :: L) :=
  h.new ((Below.refl _ _).alloc (Nat.le_refl _) _) (heap_alloc_new W o)
theorem RM.drew {w W : World} {br : Nat} {s : ByteArray} {p : Nat} {L : List (Nat × Obj)} (h : RM w W br s p L) : RM w W.drew br s p L := h.below ⟨rfl, rfl, rfl, Nat.le_refl _, fun _ _ => rfl⟩
theorem RM.drewN {w W : World} {br : Nat} {s : ByteArray} {p : Nat} {L : List (Nat × Obj)} (h : RM w W br s p L) (n : Nat) : RM w (W.drewN n) br s p L := h.below ⟨rfl, rfl, rfl, Nat.le_refl _, fun _ _ => rfl⟩
theorem RM.got {w W W' : World} {br : Nat} {s : ByteArray} {p q : Nat} {L : List (Nat × Obj)} (h : RM w W br s p L) (r : Read W br s q W') : RM w W' br s q L := by
  have hs := h.size
  exact ⟨r.rd, fun x hx => ⟨(r.old x.1 (Array.getElem?_eq_some_iff.1 (h.own x hx).1).1 (h.own x hx).2.2).trans (h.own x hx).1, (h.own x hx).2⟩,
    fun k hk h3 => (r.old k (by omega) h3).trans (h.old k hk h3), Nat.le_trans hs r.size, r.os.trans h.os, r.tape.trans h.tape, r.output.trans h.output⟩
theorem RM.get_some {w W : World} {br : Nat} {s : ByteArray} {p : Nat} {L : List (Nat × Obj)} (h : RM w W br s p L) (n : Nat) (hn64 : n ≤ 64) (hs : s.size ≤ 68719476736) (hn : p + n ≤ 8 * s.size) :
    Calls Tryd.prog 34 #[.pointer (some ⟨br, 0, none⟩), .int .i64 (n : Int)] W fun e W' => e = .returned (.tuple #[.int .u64 ((numB (((unpack s.data.toList).drop p).take n) : Nat) : Int), .bool true]) ∧ RM w W' br s (p + n) L := by
  have e : within (n : Int) = n := by unfold within; omega
  have := BitsW.get_some br s p (n : Int) W h.rd hs (by rw [e]; exact hn)
  rw [e] at this
  exact this.mono fun _ _ ⟨h1, h2⟩ => ⟨h1, h.got h2⟩
theorem RM.get_none {w W : World} {br : Nat} {s : ByteArray} {p : Nat} {L : List (Nat × Obj)} (h : RM w W br s p L) (n : Nat) (hn64 : n ≤ 64) (hs : s.size ≤ 68719476736) (hp : p ≤ 8 * s.size) (hn : 8 * s.size < p + n) :
    Calls Tryd.prog 34 #[.pointer (some ⟨br, 0, none⟩), .int .i64 (n : Int)] W fun e W' => e = .returned (.tuple #[.int .u64 0, .bool false]) ∧ RM w W' br s p L := by
  have e : within (n : Int) = n := by unfold within; omega
  exact (BitsW.get_none br s p (n : Int) W h.rd (by omega) hp (by rw [e]; exact hn)).mono fun _ _ ⟨h1, h2⟩ => ⟨h1, h.got h2⟩
theorem RM.at_ {w W : World} {br : Nat} {s : ByteArray} {p : Nat} {L : List (Nat × Obj)} (h : RM w W br s p L) {k : Nat} {o : Obj} (hk : (k, o) ∈ L) : W.heap[k]? = some o := (h.own _ hk).1
theorem RM.other {w W W' : World} {br b2 : Nat} {s s2 : ByteArray} {p q : Nat} {L : List (Nat × Obj)} {o : Obj} (h : RM w W br s p ((b2, o) :: L)) (hL : ∀ x ∈ L, x.1 ≠ b2) (r : Read W b2 s2 q W') : RM w W' br s p L := by
  have hs := h.size
  have h2 := (h.own (b2, o) (by simp))
  have hb2 : w.heap.size ≤ b2 := h2.2.1
  exact ⟨(r.old br h.lt (fun e => h2.2.2 e.symm)).trans h.rd, fun x hx => ⟨(r.old x.1 (Array.getElem?_eq_some_iff.1 (h.own x (by simp [hx])).1).1 (hL x hx)).trans (h.own x (by simp [hx])).1, (h.own x (by simp [hx])).2⟩,
    fun k hk h3 => (r.old k (by omega) (by omega)).trans (h.old k hk h3), Nat.le_trans hs r.size, r.os.trans h.os, r.tape.trans h.tape, r.output.trans h.output⟩
theorem RM.setReader {w W : World} {br : Nat} {s : ByteArray} {p : Nat} {L : List (Nat × Obj)} (h : RM w W br s p L) (q : Nat) : RM w (W.setRow br #[.string s, .int .i64 (q : Int)]) br s q L :=
  ⟨setRow_heap W br _ _ _ _ h.rd, fun x hx => ⟨(setRow_other W br x.1 _ (h.own x hx).2.2).trans (h.own x hx).1, (h.own x hx).2⟩,
    fun k hk h3 => (setRow_other W br k _ h3).trans (h.old k hk h3), by simp; exact h.size, h.os, h.tape, h.output⟩
theorem RM.setOwn {w W : World} {br : Nat} {s : ByteArray} {p : Nat} {L : List (Nat × Obj)} (h : RM w W br s p L) {k : Nat} {o : Obj} (hk : (k, o) ∈ L) (cs : Array Value) : RM w (W.setRow k cs) br s p [] := by
  have ho := h.own _ hk
  have hk2 : w.heap.size ≤ k := ho.2.1
  have hkr : k ≠ br := ho.2.2
  exact ⟨(setRow_other W k br cs (Ne.symm hkr)).trans h.rd, fun x hx => by simp at hx, fun j hj h3 => (setRow_other W k j cs (by omega)).trans (h.old j hj h3), by simp; exact h.size, h.os, h.tape, h.output⟩
theorem RM.belowB {w W W' : World} {br B : Nat} {s : ByteArray} {p : Nat} {L : List (Nat × Obj)} (h : RM w W br s p L) (hb : Below B W W') (h1 : br < B) (h2 : ∀ x ∈ L, x.1 < B) (h3 : w.heap.size ≤ B) : RM w W' br s p L :=
  ⟨(hb.block _ h1).trans h.rd, fun x hx => ⟨(hb.block _ (h2 x hx)).trans (h.own x hx).1, (h.own x hx).2⟩, fun k hk h4 => (hb.block k (by omega)).trans (h.old k hk h4), Nat.le_trans h.size hb.size, hb.os.trans h.os, hb.tape.trans h.tape, hb.output.trans h.output⟩
theorem RM.setOne {w W : World} {br : Nat} {s : ByteArray} {p : Nat} {k : Nat} {cs0 : Array Value} {t : TypeId} (h : RM w W br s p [(k, .cells cs0 t (0, 0))]) (cs : Array Value) : RM w (W.setRow k cs) br s p [(k, .cells cs t (0, 0))] := by
  have ho := h.own _ (List.mem_singleton.2 rfl)
  have hk2 : w.heap.size ≤ k := ho.2.1
  have hkr : k ≠ br := ho.2.2
  refine ⟨(setRow_other W k br cs (Ne.symm hkr)).trans h.rd, fun x hx => ?_, fun j hj h3 => (setRow_other W k j cs (by omega)).trans (h.old j hj h3), by simp; exact h.size, h.os, h.tape, h.output⟩
  rw [List.mem_singleton.1 hx]
  exact ⟨setRow_heap W k _ cs _ _ ho.1, hk2, hkr⟩
theorem RM.since {w0 w W : World} {br : Nat} {s : ByteArray} {p : Nat} {L : List (Nat × Obj)} (h : RM w W br s p L) (hb : Below w0.heap.size w0 w) (hbr : w0.heap.size ≤ br) : Below w0.heap.size w0 W :=
  hb.trans ⟨h.os, h.tape, h.output, h.size, fun k hk => h.old k (Nat.lt_of_lt_of_le hk hb.size) (by omega)⟩
/-- A row of the call's own, where one block ahead of it turned. -/
theorem own_but {w w' : World} {base n size k : Nat} {e : TypeId} {v : Value} {xs : List Value} (h : w.ownsRow base e size v n xs) (hk : k < base) (hsz : w.heap.size ≤ w'.heap.size) (hb : ∀ j, j < w.heap.size → j ≠ k → w'.heap[j]? = w.heap[j]?) : w'.ownsRow base e size v n xs := by
  obtain ⟨h1, h2⟩ := h
  refine ⟨h1, ?_⟩
  rcases h2 with h2 | ⟨g, cap, cur, hv, hg, hh, rest⟩
  · exact .inl h2
  · exact .inr ⟨g, cap, cur, hv, hg, (hb g (Array.getElem?_eq_some_iff.1 hh).1 (by omega)).trans hh, rest⟩
theorem own_base {w : World} {base b2 n size : Nat} {e : TypeId} {v : Value} {xs : List Value} (h : w.ownsRow base e size v n xs) (hk : b2 ≤ base) : w.ownsRow b2 e size v n xs := by
  obtain ⟨h1, h2⟩ := h
  refine ⟨h1, ?_⟩
  rcases h2 with h2 | ⟨g, cap, cur, hv, hg, rest⟩
  · exact .inl h2
  · exact .inr ⟨g, cap, cur, hv, by omega, rest⟩
theorem RM.read {w W : World} {br : Nat} {s : ByteArray} {p : Nat} {L : List (Nat × Obj)} (h : RM w W br s p L) : Read w br s p W := ⟨h.rd, h.size, h.os, h.tape, h.output, h.old⟩
end Go.Proofs.YtboomamnenonoaaDoor.BitsW
