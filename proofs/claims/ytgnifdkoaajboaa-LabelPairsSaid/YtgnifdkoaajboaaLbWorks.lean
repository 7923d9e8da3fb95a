/-
  alluviumlaw06.works, Few: THE WALKS.
-/
import Derived.Test.YtgnifdkoaajboaaLbRead
import Derived.Test.YtgnifdkoaajboaaLbPair2
namespace Go.Proofs.Ytgnifdkoaajboaa.FrW
set_option linter.unusedVariables false
open Go.RowKit FrM LabM LbM LabW
/-- A beginning of what lies there. -/
theorem comes_take {α : Type} {w : World} {size : Nat} {encA : α → List Value} {okA : α → Prop} {A : Option Addr} {n c : Nat} {l : List α} (h : Comes w size encA okA A n c l) {k : Nat} (hk : k ≤ n) : Comes w size encA okA A k c (l.take k) :=
  ⟨by rw [List.length_take, h.len]; omega, by have := h.le; omega, h.cap, fun i x hi => h.lies i x (by rw [List.getElem?_take] at hi; split at hi; exact hi; cases hi), fun x hx => h.ok x (List.mem_of_mem_take hx)⟩
/-- The example's labels. -/
def exL : List Lab := [(⟨#[97]⟩, ⟨#[120]⟩), (⟨#[98]⟩, ⟨#[121]⟩)]
theorem ex_check : checkB exL = true := by decide +kernel
theorem ex_read : readA (showL exL) = some exL := (readA_iff _ _).2 ⟨ex_check, rfl⟩
theorem ex_of : ofL (keyL exL) = some exL := (ofL_iff _ _).2 ⟨ex_check, rfl⟩
def HasEx (g : Nat) (W : World) : Prop := W.heap[g]? = some (.cells #[.string ⟨#[97]⟩, .string ⟨#[120]⟩, .string ⟨#[98]⟩, .string ⟨#[121]⟩] 38 (0, 0))
theorem HasEx.comes {g : Nat} {W : World} (h : HasEx g W) : Comes W 2 encL okL (some ⟨g, 0, none⟩) 2 2 exL :=
  Comes.block h rfl encL_len rfl (Nat.le_refl _) (by decide) (by intro x hx; have := check_48 ex_check x hx; simp at this; unfold okL maxLen; omega)
theorem HasEx.one {g : Nat} {W : World} (h : HasEx g W) : Comes W 2 encL okL (some ⟨g, 0, none⟩) 1 2 (exL.take 1) := comes_take h.comes (by omega)
theorem HasEx.later {g : Nat} {W W' : World} (h : HasEx g W) (hb : Below W.heap.size W W') : HasEx g W' := (hb.block _ (Array.getElem?_eq_some_iff.1 h).1).trans h
theorem ex_short : shortL exL := short_of ex_check
theorem ex_short1 : shortL (exL.take 1) := fun x hx => ex_short x (List.mem_of_mem_take hx)
theorem ex_key : keyL exL = [1, 97, 1, 120, 1, 98, 1, 121] := by decide +kernel
theorem ex_show : showL exL = [123, 97, 61, 34, 120, 34, 44, 98, 61, 34, 121, 34, 125] := by decide +kernel
theorem ex_key1 : keyL (exL.take 1) = [1, 97, 1, 120] := by decide +kernel
theorem ex_get : LabM.getL exL ⟨#[98]⟩ = ⟨#[121]⟩ := by decide +kernel
theorem ex_sum : bs (showL exL) = (⟨#[123, 97, 61]⟩ ++ ⟨#[34]⟩ ++ ⟨#[120]⟩ ++ ⟨#[34]⟩ ++ ⟨#[44, 98, 61]⟩ ++ ⟨#[34]⟩ ++ ⟨#[121]⟩ ++ ⟨#[34]⟩ ++ ⟨#[125]⟩ : ByteArray) := by
  rw [ex_show]
  show _ = bs [123, 97, 61] ++ bs [34] ++ bs [120] ++ bs [34] ++ bs [44, 98, 61] ++ bs [34] ++ bs [121] ++ bs [34] ++ bs [125]
  simp only [bs_append]
  rfl
def ExSt (g : Nat) (w W : World) : Prop := HasEx g W ∧ Below w.heap.size w W
theorem ExSt.next {g : Nat} {w W W' : World} (h : ExSt g w W) (hb : Below W.heap.size W W') : ExSt g w W' := ⟨h.1.later hb, h.2.trans (hb.mono h.2.size)⟩
set_option maxRecDepth 20000 in
set_option maxHeartbeats 4000000 in
theorem works_any (w : World) : Calls Try.prog 11 #[] w fun e w' => e = .returned (.bool true) ∧ Below w.heap.size w w' := by
  have hnew := heap_alloc_new w (.cells #[.string ⟨#[97]⟩, .string ⟨#[120]⟩, .string ⟨#[98]⟩, .string ⟨#[121]⟩] 38 (0, 0))
  have hb1 : Below w.heap.size w (w.alloc (.cells #[.string ⟨#[97]⟩, .string ⟨#[120]⟩, .string ⟨#[98]⟩, .string ⟨#[121]⟩] 38 (0, 0))) := (Below.refl _ _).alloc (Nat.le_refl _) _
  have hst : ExSt w.heap.size w ((w.alloc (.cells #[.string ⟨#[97]⟩, .string ⟨#[120]⟩, .string ⟨#[98]⟩, .string ⟨#[121]⟩] 38 (0, 0))).alloc (.cells #[.int .u8 34] 5 (0, 0))) :=
    ⟨HasEx.later hnew ((Below.refl _ _).alloc (Nat.le_refl _) _), hb1.alloc hb1.size _⟩
  have hconv : (convert 42 9 (.slice (some ⟨w.heap.size + 1, 0, none⟩) 1 1)).run Try.prog ((w.alloc (.cells #[.string ⟨#[97]⟩, .string ⟨#[120]⟩, .string ⟨#[98]⟩, .string ⟨#[121]⟩] 38 (0, 0))).alloc (.cells #[.int .u8 34] 5 (0, 0))) = .ok (.string ⟨#[34]⟩) ((w.alloc (.cells #[.string ⟨#[97]⟩, .string ⟨#[120]⟩, .string ⟨#[98]⟩, .string ⟨#[121]⟩] 38 (0, 0))).alloc (.cells #[.int .u8 34] 5 (0, 0))) := by
    refine run_convert_bytes_back (P := Try.prog) _ 42 9 5 ⟨w.heap.size + 1, 0, none⟩ 1 [34] Try.underlying42 Try.underlying5 Try.underlying9 ?_
    intro j hj
    have hj4 : j < 1 := hj
    obtain rfl : j = 0 := by omega
    have h2 := heap_alloc_new (w.alloc (.cells #[.string ⟨#[97]⟩, .string ⟨#[120]⟩, .string ⟨#[98]⟩, .string ⟨#[121]⟩] 38 (0, 0))) (.cells #[.int .u8 34] 5 (0, 0))
    rw [show (w.alloc (.cells #[.string ⟨#[97]⟩, .string ⟨#[120]⟩, .string ⟨#[98]⟩, .string ⟨#[121]⟩] 38 (0, 0))).heap.size = w.heap.size + 1 by simp] at h2
    show World.cell? _ ⟨w.heap.size + 1, 0, none⟩ = _
    rw [cell_of_row _ _ _ _ _ _ h2]; rfl
  have HST := Lib.hid hst
  obtain ⟨S, hS⟩ : ∃ S, bs (showL exL) = S := ⟨_, rfl⟩
  obtain ⟨K, hK⟩ : ∃ K, bs (keyL exL) = K := ⟨_, rfl⟩
  have CSh : Hid (∀ W, ExSt w.heap.size w W → Calls Try.prog 21 #[.slice (some ⟨w.heap.size, 0, none⟩) 2 2] W fun e w' => e = .returned (.string S) ∧ Below W.heap.size W w') := Lib.hid (fun W h => by
    rw [← hS]; exact show_any _ _ _ _ W h.1.comes (by omega) ex_short)
  have CKe : Hid (∀ W, ExSt w.heap.size w W → Calls Try.prog 19 #[.slice (some ⟨w.heap.size, 0, none⟩) 2 2] W fun e w' => e = .returned (.string K) ∧ Below W.heap.size W w') := Lib.hid (fun W h => by
    rw [← hK]; exact key_any _ _ _ _ W h.1.comes (by omega) ex_short)
  have CRd : Hid (∀ W, Calls Try.prog 27 #[.string S] W fun e w' => ∃ A c, e = .returned (.tuple #[.slice A 2 c, .bool true]) ∧ Comes w' 2 encL okL A 2 c exL ∧ Below W.heap.size W w') := Lib.hid (fun W => by
    rw [← hS]
    have h := read_any (showL exL) W (by rw [ex_show]; decide)
    rw [ex_read] at h; exact h)
  have COf : Hid (∀ W, Calls Try.prog 25 #[.string K] W fun e w' => ∃ A c, e = .returned (.tuple #[.slice A 2 c, .bool true]) ∧ Comes w' 2 encL okL A 2 c exL ∧ Below W.heap.size W w') := Lib.hid (fun W => by
    rw [← hK]
    have h := of_any (keyL exL) W (by rw [ex_key]; decide)
    rw [ex_of] at h; exact h)
  have CCk : Hid (∀ W, ExSt w.heap.size w W → Calls Try.prog 14 #[.slice (some ⟨w.heap.size, 0, none⟩) 2 2] W fun e w' => e = .returned (.int .i64 0) ∧ Below W.heap.size W w') := Lib.hid (fun W h => by
    have h2 := check_any _ _ _ _ W h.1.comes
    rw [ex_check] at h2; exact h2)
  have CCn : Hid (∀ W, Calls Try.prog 14 #[.slice none 0 0] W fun e w' => e = .returned (.int .i64 2) ∧ Below W.heap.size W w') := Lib.hid (fun W => check_any _ _ _ [] W (Comes.nil W 2 encL okL))
  have CS2 : Hid (∀ W A c, ExSt w.heap.size w W → Comes W 2 encL okL A 2 c exL → Calls Try.prog 32 #[.slice (some ⟨w.heap.size, 0, none⟩) 2 2, .slice A 2 c] W fun e w' => e = .returned (.bool true) ∧ Below W.heap.size W w') := Lib.hid (fun W A c h h2 => by
    have h3 := same_any _ _ _ _ _ _ _ _ W h.1.comes h2 (by omega) (by omega) ex_short ex_short
    rw [decide_eq_true rfl] at h3; exact h3)
  have CS1 : Hid (∀ W, ExSt w.heap.size w W → Calls Try.prog 32 #[.slice (some ⟨w.heap.size, 0, none⟩) 2 2, .slice (some ⟨w.heap.size, 0, none⟩) 1 2] W fun e w' => e = .returned (.bool false) ∧ Below W.heap.size W w') := Lib.hid (fun W h => by
    have h3 := same_any _ _ _ _ _ _ _ _ W h.1.comes h.1.one (by omega) (by omega) ex_short ex_short1
    rw [decide_eq_false (by intro e; have := congrArg List.length e; simp [exL] at this)] at h3; exact h3)
  have CLi : Hid (∀ W, Calls Try.prog 15 #[.int .i64 1] W fun e w' => e = .returned (.int .i64 12) ∧ w' = W) := Lib.hid (fun W => limit_any 1 W)
  have CLo : Hid (∀ W, ExSt w.heap.size w W → Calls Try.prog 17 #[.slice (some ⟨w.heap.size, 0, none⟩) 2 2] W fun e w' => e = .returned (.int .i64 1) ∧ Below W.heap.size W w') := Lib.hid (fun W h => longest_any _ _ _ _ W h.1.comes)
  have CGe : Hid (∀ W, ExSt w.heap.size w W → Calls Try.prog 23 #[.slice (some ⟨w.heap.size, 0, none⟩) 2 2, .string ⟨#[98]⟩] W fun e w' => e = .returned (.string ⟨#[121]⟩) ∧ Below W.heap.size W w') := Lib.hid (fun W h => by
    have h3 := get_any _ _ _ _ ⟨#[98]⟩ W h.1.comes
    rw [ex_get] at h3; exact h3)
  have CL1 : Hid (∀ W, ExSt w.heap.size w W → Calls Try.prog 31 #[.slice (some ⟨w.heap.size, 0, none⟩) 1 2, .slice (some ⟨w.heap.size, 0, none⟩) 2 2] W fun e w' => e = .returned (.bool true) ∧ Below W.heap.size W w') := Lib.hid (fun W h => by
    have h3 := less_any _ _ _ _ _ _ _ _ W h.1.one h.1.comes (by omega) (by omega) ex_short1 ex_short
    rw [ex_key, ex_key1] at h3; exact h3)
  have CL2 : Hid (∀ W, ExSt w.heap.size w W → Calls Try.prog 31 #[.slice (some ⟨w.heap.size, 0, none⟩) 2 2, .slice (some ⟨w.heap.size, 0, none⟩) 1 2] W fun e w' => e = .returned (.bool false) ∧ Below W.heap.size W w') := Lib.hid (fun W h => by
    have h3 := less_any _ _ _ _ _ _ _ _ W h.1.comes h.1.one (by omega) (by omega) ex_short ex_short1
    rw [ex_key, ex_key1] at h3; exact h3)
  have hcmp : (S.toList == (⟨#[123, 97, 61]⟩ ++ ⟨#[34]⟩ ++ ⟨#[120]⟩ ++ ⟨#[34]⟩ ++ ⟨#[44, 98, 61]⟩ ++ ⟨#[34]⟩ ++ ⟨#[121]⟩ ++ ⟨#[34]⟩ ++ ⟨#[125]⟩ : ByteArray).toList) = true := by rw [← hS, ex_sum]; simp
  clear hst hnew hb1 hS hK
  go_enter Try.func11, Try.ntmps11
  go_wp2_with fail
  generalize ((w.alloc (.cells #[.string ⟨#[97]⟩, .string ⟨#[120]⟩, .string ⟨#[98]⟩, .string ⟨#[121]⟩] 38 (0, 0))).alloc (.cells #[.int .u8 34] 5 (0, 0))) = w0 at *
  refine (CSh.out _ HST.out).mono ?_
  rintro e w1 ⟨rfl, hb⟩
  have H1 := Lib.hid (HST.out.next hb)
  clear hb HST hconv
  go_wp2_with fail
  refine (CRd.out _).mono ?_
  rintro e w2 ⟨A1, c1, rfl, hcm1, hb⟩
  have H2 := Lib.hid (And.intro (H1.out.next hb) hcm1)
  clear hb H1 hcm1
  go_wp2_with fail
  refine (CKe.out _ H2.out.1).mono ?_
  rintro e w3 ⟨rfl, hb⟩
  have H3 := Lib.hid (And.intro (H2.out.1.next hb) (H2.out.2.later hb))
  clear hb H2
  go_wp2_with fail
  refine (COf.out _).mono ?_
  rintro e w4 ⟨A2, c2, rfl, hcm2, hb⟩
  have H4 := Lib.hid (And.intro (H3.out.1.next hb) (And.intro (H3.out.2.later hb) hcm2))
  clear hb H3 hcm2
  go_wp2_with fail
  refine (CCk.out _ H4.out.1).mono ?_
  rintro e w5 ⟨rfl, hb⟩
  have H5 := Lib.hid (And.intro (H4.out.1.next hb) (And.intro (H4.out.2.1.later hb) (H4.out.2.2.later hb)))
  clear hb H4
  go_wp2_with fail
  refine (CCn.out _).mono ?_
  rintro e w6 ⟨rfl, hb⟩
  have H6 := Lib.hid (And.intro (H5.out.1.next hb) (And.intro (H5.out.2.1.later hb) (H5.out.2.2.later hb)))
  clear hb H5
  go_wp2_with fail
  refine (CS2.out _ A1 c1 H6.out.1 H6.out.2.1).mono ?_
  rintro e w7 ⟨rfl, hb⟩
  have H7 := Lib.hid (And.intro (H6.out.1.next hb) (And.intro (H6.out.2.1.later hb) (H6.out.2.2.later hb)))
  clear hb H6
  go_wp2_with fail
  refine (CS2.out _ A2 c2 H7.out.1 H7.out.2.2).mono ?_
  rintro e w8 ⟨rfl, hb⟩
  have H8 := Lib.hid (And.intro (H7.out.1.next hb) (And.intro (H7.out.2.1.later hb) (H7.out.2.2.later hb)))
  clear hb H7
  go_wp2_with fail
  refine (CS1.out _ H8.out.1).mono ?_
  rintro e w9 ⟨rfl, hb⟩
  have H9 := Lib.hid (And.intro (H8.out.1.next hb) (And.intro (H8.out.2.1.later hb) (H8.out.2.2.later hb)))
  clear hb H8
  go_wp2_with fail
  refine (CLi.out _).mono ?_
  rintro e w10 ⟨rfl, rfl⟩
  go_wp2_with fail
  refine (CLo.out _ H9.out.1).mono ?_
  rintro e w11 ⟨rfl, hb⟩
  have H11 := Lib.hid (And.intro (H9.out.1.next hb) (And.intro (H9.out.2.1.later hb) (H9.out.2.2.later hb)))
  clear hb H9
  go_wp2_with fail
  refine (CGe.out _ H11.out.1).mono ?_
  rintro e w12 ⟨rfl, hb⟩
  have H12 := Lib.hid (And.intro (H11.out.1.next hb) (And.intro (H11.out.2.1.later hb) (H11.out.2.2.later hb)))
  clear hb H11
  go_wp2_with fail
  refine (CL1.out _ H12.out.1).mono ?_
  rintro e w13 ⟨rfl, hb⟩
  have H13 := Lib.hid (And.intro (H12.out.1.next hb) (And.intro (H12.out.2.1.later hb) (H12.out.2.2.later hb)))
  clear hb H12
  go_wp2_with fail
  refine (CL2.out _ H13.out.1).mono ?_
  rintro e w14 ⟨rfl, hb⟩
  have H14 := Lib.hid (And.intro (H13.out.1.next hb) (And.intro (H13.out.2.1.later hb) (H13.out.2.2.later hb)))
  clear hb H13
  go_wp2_with fail
  go_ret
  exact ⟨rfl, H14.out.1.2⟩
end Go.Proofs.Ytgnifdkoaajboaa.FrW
