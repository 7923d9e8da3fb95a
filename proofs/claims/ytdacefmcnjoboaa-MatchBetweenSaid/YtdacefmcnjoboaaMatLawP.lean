/-
  MatchParts: THE WALK.
-/
import Derived.Test.YtdacefmcnjoboaaMatLawB
namespace Go.Proofs.Ytdacefmcnjoboaa.LabW
open Go.RowKit Go.Shelf LabM
theorem filt_parts {α : Type} (p : α → Bool) (l : List α) : (l.filter p).length + (l.filter (fun x => !p x)).length = l.length := by
  induction l with
  | nil => rfl
  | cons x l ih =>
    rcases Bool.eq_false_or_eq_true (p x) with h | h
    · rw [List.filter_cons_of_pos h, List.filter_cons_of_neg (by simp [h]), List.length_cons, List.length_cons]; omega
    · rw [List.filter_cons_of_neg (by simp [h]), List.filter_cons_of_pos (by simp [h]), List.length_cons, List.length_cons]; omega
theorem filt_twice {α : Type} (p : α → Bool) (l : List α) : (l.filter p).filter p = l.filter p := by
  rw [List.filter_filter]; congr 1; funext x; cases p x <;> rfl
theorem filt_none {α : Type} (p : α → Bool) (l : List α) : (l.filter (fun x => !p x)).filter p = [] := by
  rw [List.filter_filter, List.filter_eq_nil_iff]
  intro x _; cases p x <;> simp
theorem inside_none (f t : Int) (l : List Sam) (h : ¬ f ≤ t) : l.filter (insideB f t) = [] := by
  rw [List.filter_eq_nil_iff]
  intro x _; unfold insideB; simp; omega
theorem sortedL_pair (l : List Sam) : sortedL l = true ↔ l.Pairwise (fun a b => a.1 < b.1) := by
  induction l with
  | nil => exact ⟨fun _ => List.Pairwise.nil, fun _ => rfl⟩
  | cons x l ih =>
    cases l with
    | nil => exact ⟨fun _ => List.pairwise_singleton _ _, fun _ => rfl⟩
    | cons y l =>
      rw [sortedL, Bool.and_eq_true, decide_eq_true_iff, ih, List.pairwise_cons (a := x)]
      constructor
      · rintro ⟨h, hp⟩
        refine ⟨fun z hz => ?_, hp⟩
        rcases List.mem_cons.1 hz with rfl | hz
        · exact h
        · have := (List.pairwise_cons.1 hp).1 z hz; omega
      · rintro ⟨h, hp⟩
        exact ⟨h y (List.mem_cons_self ..), hp⟩
theorem sortedL_filter (p : Sam → Bool) (l : List Sam) (h : sortedL l = true) : sortedL (l.filter p) = true :=
  (sortedL_pair _).2 (((sortedL_pair _).1 h).filter p)
set_option maxRecDepth 100000 in
set_option maxHeartbeats 4000000 in
theorem matchParts_all (A : Option Addr) (n c : Nat) (l : List Sam) (f t : Int) (w : World) (hl : Comes w 2 encS okS A n c l) :
    Calls Try.prog 7 #[.slice A n c, .int .i64 f, .int .i64 t] w fun e w' => e = .returned (.bool true) ∧ Below w.heap.size w w' := by
  have HL := Lib.hid hl
  have hcap : c ≤ 9223372036854775807 := hl.cap
  have hle := hl.le
  have hlen := hl.len
  clear hl
  by_cases h60 : 60 < n
  · go_enter Try.func7, Try.ntmps7
    go_wp2_with fail
    refine (mworks_any _).mono ?_
    rintro e w1 ⟨rfl, hb1⟩
    have HB1 := Lib.hid hb1
    clear hb1
    go_wp2_with fail
    go_ret
    exact ⟨rfl, HB1.out⟩
  · obtain ⟨P, hP⟩ : ∃ P, l.filter (insideB f t) = P := ⟨_, rfl⟩
    obtain ⟨Q, hQ⟩ : ∃ Q, l.filter (fun x => !insideB f t x) = Q := ⟨_, rfl⟩
    have hPQ := filt_parts (insideB f t) l
    rw [hP, hQ, hlen] at hPQ
    have HPP := Lib.hid (filt_twice (insideB f t) l)
    have HQP := Lib.hid (filt_none (insideB f t) l)
    have HPok := Lib.hid (filt_ok (p := insideB f t) HL.out.ok)
    have HQok := Lib.hid (filt_ok (p := fun x => !insideB f t x) HL.out.ok)
    rw [hP] at HPP HPok
    rw [hQ] at HQP HQok
    have hPn : ¬ f ≤ t → P = [] := fun h => by rw [← hP, inside_none f t l h]
    have HPs := Lib.hid (fun h => hP ▸ sortedL_filter (insideB f t) l h : sortedL l = true → sortedL P = true)
    have HQs := Lib.hid (fun h => hQ ▸ sortedL_filter (fun x => !insideB f t x) l h : sortedL l = true → sortedL Q = true)
    have HP := Lib.hid hP
    have HQ := Lib.hid hQ
    have hsum : (↑P.length + ↑Q.length : Int) = ↑n := by omega
    have hPb : P.length ≤ 60 := by omega
    have hQb : Q.length ≤ 60 := by omega
    clear hP hQ hPQ hlen
    obtain ⟨S, hS⟩ : ∃ S, sortedL l = S := ⟨_, rfl⟩
    have HS := Lib.hid hS
    clear hS
    have hft : (f ≤ t ∧ True) ∨ (¬ f ≤ t ∧ P = []) := by
      by_cases h : f ≤ t
      · exact .inl ⟨h, trivial⟩
      · exact .inr ⟨h, hPn h⟩
    clear hPn
    have hft' : (f ≤ t ∧ True) ∨ (¬ f ≤ t ∧ P = [] ∧ Q.length = n) := by
      rcases hft with h | ⟨h, h2⟩
      · exact .inl h
      · subst h2; exact .inr ⟨h, rfl, by rw [show ([] : List Sam).length = 0 from rfl] at hsum; omega⟩
    clear hft
    rcases hft' with ⟨hft, -⟩ | ⟨hft, rfl, rfl⟩
    all_goals
      cases S
      all_goals
        go_enter Try.func7, Try.ntmps7
        go_wp2_with fail
        refine (mworks_any _).mono ?_
        rintro e w1 ⟨rfl, hb1⟩
        have HB1 := Lib.hid hb1
        clear hb1
        go_wp2_with fail
        refine (between_any A _ c l f t _ (HL.out.later HB1.out) (by omega)).mono ?_
        rw [HP.out]
        rintro e w2 ⟨v2, rfl, hown2, hb2⟩
        obtain ⟨A2, c2, rfl, -, hc2⟩ := Comes.of_own (okA := okS) hown2 (fun _ => rfl) (by decide) HPok.out
        have HB2 := Lib.hid (later HB1.out hb2)
        have HC2 := Lib.hid hc2
        clear hown2 hb2 hc2
        go_wp2_with fail
        refine (without_any A _ c l f t _ (HL.out.later HB2.out) (by omega)).mono ?_
        rw [HQ.out]
        rintro e w3 ⟨v3, rfl, hown3, hb3⟩
        obtain ⟨A3, c3, rfl, -, hc3⟩ := Comes.of_own (okA := okS) hown3 (fun _ => rfl) (by decide) HQok.out
        have HB3 := Lib.hid (later HB2.out hb3)
        have HC3 := Lib.hid hc3
        have HC23 := Lib.hid (HC2.out.later hb3)
        clear hown3 hb3 hc3 HC2
        go_wp2_with fail
        refine (between_any A2 _ c2 _ f t _ HC23.out (by omega)).mono ?_
        rw [HPP.out]
        rintro e w4 ⟨v4, rfl, hown4, hb4⟩
        obtain ⟨A4, c4, rfl, -, hc4⟩ := Comes.of_own (okA := okS) hown4 (fun _ => rfl) (by decide) HPok.out
        have HB4 := Lib.hid (later HB3.out hb4)
        have HC4 := Lib.hid hc4
        have HC24 := Lib.hid (HC23.out.later hb4)
        have HC34 := Lib.hid (HC3.out.later hb4)
        clear hown4 hb4 hc4 HC23 HC3
        go_wp2_with fail
        refine (rsame_any _ _ _ _ _ _ _ _ _ HC4.out HC24.out).mono ?_
        rintro e w5 ⟨rfl, hb5⟩
        rw [decide_eq_true rfl]
        have HB5 := Lib.hid (later HB4.out hb5)
        have HC25 := Lib.hid (HC24.out.later hb5)
        have HC35 := Lib.hid (HC34.out.later hb5)
        clear hb5 HC24 HC34 HC4
        go_wp2_with fail
        refine (between_any A3 _ c3 _ f t _ HC35.out (by omega)).mono ?_
        rw [HQP.out]
        rintro e w6 ⟨v6, rfl, hown6, hb6⟩
        obtain ⟨A6, c6, rfl, -, hc6⟩ := Comes.of_own (okA := okS) hown6 (fun _ => rfl) (by decide) (fun _ h => by cases h)
        have HB6 := Lib.hid (later HB5.out hb6)
        have HC26 := Lib.hid (HC25.out.later hb6)
        have HC36 := Lib.hid (HC35.out.later hb6)
        clear hown6 hb6 hc6 HC25 HC35
        go_wp2_with fail
        refine (sorted_any _ _ _ _ _ (HL.out.later HB6.out)).mono ?_
        rw [HS.out]
        rintro e w7 ⟨rfl, hb7⟩
        have HB7 := Lib.hid (later HB6.out hb7)
        have HC27 := Lib.hid (HC26.out.later hb7)
        have HC37 := Lib.hid (HC36.out.later hb7)
        clear hb7 HC26 HC36
        go_wp2_with fail
        first
        | (refine (sorted_any _ _ _ _ _ HC27.out).mono ?_
           rw [HPs.out HS.out]
           rintro e w8 ⟨rfl, hb8⟩
           have HB8 := Lib.hid (later HB7.out hb8)
           have HC38 := Lib.hid (HC37.out.later hb8)
           clear hb8 HC27 HC37
           go_wp2_with fail
           refine (sorted_any _ _ _ _ _ HC38.out).mono ?_
           rw [HQs.out HS.out]
           rintro e w9 ⟨rfl, hb9⟩
           have HB9 := Lib.hid (later HB8.out hb9)
           clear hb9 HC38
           go_wp2_with fail
           go_ret
           exact ⟨rfl, HB9.out⟩)
        | (go_ret
           exact ⟨rfl, HB7.out⟩)
end Go.Proofs.Ytdacefmcnjoboaa.LabW
