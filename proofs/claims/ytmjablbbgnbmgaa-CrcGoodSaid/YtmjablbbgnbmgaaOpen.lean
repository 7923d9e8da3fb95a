/-
  HOW ARGUMENTS THAT CAME IN ARE OPENED, BY THEIR TYPE'S SHAPE, OVER ANY PROGRAM.
-/
import Derived.Test.YtmjablbbgnbmgaaKit
import Derived.ProofKit
import Derived.OpenShut
namespace Go.Proofs.Ytmjablbbgnbmgaa
open Go.RowKit Go.ChangeShapes Go.WideShapes

/-- An array of bytes by value. -/
theorem open_bytes_array {H : Type} {enc : TypeId × Value → H} {P : Program} {w : World} {base : Nat} {spare : Nat → Bool} {held : Bool} {r : Reach} {b0 n : Nat} {t e : TypeId} {v : Value} {d : DataW H} {ps : List MemPlace}
    (ht : P.underlying t = some (.array n e)) (he : P.underlying e = some (.int .u8)) (hce : P.cellsOf e = 1) (hct : P.cellsOf t = n)
    (hval : Value.okWide P w r b0 t v) (hd : DataW.Trod enc P w base spare held t v d ps) : ∃ l : List UInt8, v = .agg (byteCells l).toArray ∧ l.length = n := by
  unfold Value.okWide at hval
  rw [ht] at hval
  obtain ⟨cs, rfl, hsz, -⟩ := hval
  obtain ⟨fuel, hf⟩ := hd
  obtain ⟨xs, m, -, -, hl, hxl, hall⟩ := DataW.trod_array ht hf
  rw [hce] at hall
  have hcl : cs.size = n := by rw [hsz, hct]
  have key : ∀ i, i < n → ∃ b : UInt8, cs[i]? = some (.int .u8 (b.toNat : Int)) := by
    intro i hi
    have h1 := hall i hi
    have hlt : i < xs.length := by omega
    rw [List.getElem?_eq_getElem hlt] at h1
    obtain ⟨k, hk, -, hw⟩ := DataW.trod_int he h1
    have hb := bounds_u8 hw
    refine ⟨UInt8.ofNat k.toNat, ?_⟩
    have h2 : cs.toList[i]? = some (.int .u8 k) := by
      have := congrArg (fun l : List Value => l[0]?) hk
      simpa [Value.cells] using this
    rw [Array.getElem?_toList] at h2
    rw [h2]
    simp; omega
  have hc : ∃ l : List UInt8, cs.toList = byteCells l ∧ l.length = n := by
    clear hf hall hsz hxl hl
    have : ∀ (n : Nat) (L : List Value), L.length = n → (∀ i, i < n → ∃ b : UInt8, L[i]? = some (.int .u8 (b.toNat : Int))) → ∃ l : List UInt8, L = byteCells l ∧ l.length = n := by
      intro n
      induction n with
      | zero => intro L hL _; exact ⟨[], by simpa [byteCells] using hL, rfl⟩
      | succ n ih =>
        intro L hL hk
        cases L with
        | nil => simp at hL
        | cons x L =>
          obtain ⟨b, hb⟩ := hk 0 (by omega)
          obtain ⟨l, hl, hn⟩ := ih L (by simpa using hL) (fun i hi => by simpa using hk (i + 1) (by omega))
          refine ⟨b :: l, ?_, by simp [hn]⟩
          simp at hb
          rw [hb, hl]; rfl
    exact this n cs.toList (by simpa using hcl) (fun i hi => by simpa using key i hi)
  obtain ⟨l, h1, h2⟩ := hc
  refine ⟨l, ?_, h2⟩
  rw [← h1]
end Go.Proofs.Ytmjablbbgnbmgaa
