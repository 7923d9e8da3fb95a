/-
  MatchBetween, MatchParts: THE WALKS.
-/
import Derived.Test.YtdacefmcnjoboaaMatWorks
namespace Go.Proofs.Ytdacefmcnjoboaa.LabW
open Go.RowKit Go.Shelf LabM
theorem filt_true (f t : Int) (l : List Sam) : l.filter (fun x => insideB f t x == true) = l.filter (insideB f t) := by
  congr 1; funext x; cases insideB f t x <;> rfl
theorem filt_false (f t : Int) (l : List Sam) : l.filter (fun x => insideB f t x == false) = l.filter (fun x => !insideB f t x) := by
  congr 1; funext x; cases insideB f t x <;> rfl
theorem filt_ok {p : Sam → Bool} {l : List Sam} (h : ∀ x ∈ l, okS x) : ∀ x ∈ l.filter p, okS x := fun x hx => h x (List.mem_filter.1 hx).1
theorem filt_len {α : Type} (p : α → Bool) (l : List α) {n : Nat} (h : l.length = n) (hn : n ≤ 60) : (l.filter p).length ≤ 1000000 := by
  have := List.length_filter_le p l; omega
set_option maxRecDepth 100000 in
set_option maxHeartbeats 4000000 in
theorem matchBetween_all (A : Option Addr) (n c : Nat) (l : List Sam) (f t : Int) (w : World) (hl : Comes w 2 encS okS A n c l) :
    Calls Try.prog 4 #[.slice A n c, .int .i64 f, .int .i64 t] w fun e w' => e = .returned (.bool true) ∧ Below w.heap.size w w' := by
  have HL := Lib.hid hl
  have hcap : c ≤ 9223372036854775807 := hl.cap
  have hle := hl.le
  clear hl
  by_cases h60 : 60 < n
  · go_enter Try.func4, Try.ntmps4
    go_wp2_with fail
    refine (mworks_any _).mono ?_
    rintro e w1 ⟨rfl, hb1⟩
    have HB1 := Lib.hid hb1
    clear hb1
    go_wp2_with fail
    go_ret
    exact ⟨rfl, HB1.out⟩
  · go_enter Try.func4, Try.ntmps4
    go_wp2_with fail
    refine (mworks_any _).mono ?_
    rintro e w1 ⟨rfl, hb1⟩
    have HB1 := Lib.hid hb1
    clear hb1
    go_wp2_with fail
    refine (between_any A n c l f t _ (HL.out.later HB1.out) (by omega)).mono ?_
    rintro e w2 ⟨v2, rfl, hown2, hb2⟩
    obtain ⟨A2, c2, rfl, -, hc2⟩ := Comes.of_own (okA := okS) hown2 (fun _ => rfl) (by decide) (filt_ok HL.out.ok)
    have HB2 := Lib.hid (later HB1.out hb2)
    have HC2 := Lib.hid hc2
    clear hown2 hb2 hc2
    go_wp2_with fail
    refine (without_any A n c l f t _ (HL.out.later HB2.out) (by omega)).mono ?_
    rintro e w3 ⟨v3, rfl, hown3, hb3⟩
    obtain ⟨A3, c3, rfl, -, hc3⟩ := Comes.of_own (okA := okS) hown3 (fun _ => rfl) (by decide) (filt_ok HL.out.ok)
    have HB3 := Lib.hid (later HB2.out hb3)
    have HC3 := Lib.hid hc3
    have HC23 := Lib.hid (HC2.out.later hb3)
    clear hown3 hb3 hc3 HC2
    go_wp2_with fail
    refine (rbetween_any A n c l f t true _ (HL.out.later HB3.out) (by omega)).mono ?_
    rintro e w4 ⟨v4, rfl, hown4, hb4⟩
    rw [filt_true] at hown4
    obtain ⟨A4, c4, rfl, -, hc4⟩ := Comes.of_own (okA := okS) hown4 (fun _ => rfl) (by decide) (filt_ok HL.out.ok)
    have HB4 := Lib.hid (later HB3.out hb4)
    have HC4 := Lib.hid hc4
    have HC24 := Lib.hid (HC23.out.later hb4)
    have HC34 := Lib.hid (HC3.out.later hb4)
    clear hown4 hb4 hc4 HC23 HC3
    go_wp2_with fail
    refine (rsame_any _ _ _ _ _ _ _ _ _ HC24.out HC4.out).mono ?_
    rintro e w5 ⟨rfl, hb5⟩
    rw [decide_eq_true rfl]
    have HB5 := Lib.hid (later HB4.out hb5)
    have HC35 := Lib.hid (HC34.out.later hb5)
    clear hb5 HC24 HC34 HC4
    go_wp2_with fail
    refine (rbetween_any A n c l f t false _ (HL.out.later HB5.out) (by omega)).mono ?_
    rintro e w6 ⟨v6, rfl, hown6, hb6⟩
    rw [filt_false] at hown6
    obtain ⟨A6, c6, rfl, -, hc6⟩ := Comes.of_own (okA := okS) hown6 (fun _ => rfl) (by decide) (filt_ok HL.out.ok)
    have HB6 := Lib.hid (later HB5.out hb6)
    have HC6 := Lib.hid hc6
    have HC36 := Lib.hid (HC35.out.later hb6)
    clear hown6 hb6 hc6 HC35
    go_wp2_with fail
    refine (rsame_any _ _ _ _ _ _ _ _ _ HC36.out HC6.out).mono ?_
    rintro e w7 ⟨rfl, hb7⟩
    rw [decide_eq_true rfl]
    have HB7 := Lib.hid (later HB6.out hb7)
    clear hb7 HC36 HC6
    go_wp2_with fail
    refine (sorted_any _ _ _ _ _ (HL.out.later HB7.out)).mono ?_
    rintro e w8 ⟨rfl, hb8⟩
    have HB8 := Lib.hid (later HB7.out hb8)
    clear hb8
    obtain ⟨S, hS⟩ : ∃ S, sortedL l = S := ⟨_, rfl⟩
    rw [hS]
    have HS := Lib.hid hS
    clear hS
    go_wp2_with fail
    refine (rsorted_any _ _ _ _ _ (HL.out.later HB8.out)).mono ?_
    rintro e w9 ⟨rfl, hb9⟩
    rw [HS.out]
    have HB9 := Lib.hid (later HB8.out hb9)
    clear hb9
    go_wp2_with fail
    go_ret
    exact ⟨rfl, HB9.out⟩
end Go.Proofs.Ytdacefmcnjoboaa.LabW
