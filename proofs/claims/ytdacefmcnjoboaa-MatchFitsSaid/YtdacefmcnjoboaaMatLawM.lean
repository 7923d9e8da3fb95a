/-
  MatchMore: THE WALK.
-/
import Derived.Test.YtdacefmcnjoboaaMatWorks
import Derived.Test.YtdacefmcnjoboaaAppC
namespace Go.Proofs.Ytdacefmcnjoboaa.LabW
open Go.RowKit Go.Shelf LabM
theorem oneM (x : Mat) : ∀ u ∈ encM x, u.oneCell' = true := by
  intro u hu
  simp [encM] at hu
  rcases hu with rfl | rfl | rfl <;> rfl
theorem allB_append (a b : List Mat) (l : List Lab) : allB (a ++ b) l = (allB a l && allB b l) := List.all_append
theorem fewM_len {l : List Mat} (h : fewM l = true) : l.length ≤ 10 := by
  unfold fewM at h; simp at h; exact h.2
theorem fewL_len {l : List Lab} (h : fewL l = true) : l.length ≤ 10 := by
  unfold fewL at h; simp at h; exact h.2
theorem ok_app {α : Type} {p : α → Prop} {a b : List α} (ha : ∀ x ∈ a, p x) (hb : ∀ x ∈ b, p x) : ∀ x ∈ a ++ b, p x := fun x hx => (List.mem_append.1 hx).elim (ha x) (hb x)
set_option maxRecDepth 100000 in
set_option maxHeartbeats 4000000 in
theorem matchMore_all (A1 : Option Addr) (n1 c1 : Nat) (l1 : List Mat) (A2 : Option Addr) (n2 c2 : Nat) (l2 : List Mat) (A3 : Option Addr) (n3 c3 : Nat) (l3 : List Lab) (w : World) (h1 : Comes w 3 encM okM A1 n1 c1 l1) (h2 : Comes w 3 encM okM A2 n2 c2 l2) (h3 : Comes w 2 encL okL A3 n3 c3 l3) :
    Calls Try.prog 6 #[.slice A1 n1 c1, .slice A2 n2 c2, .slice A3 n3 c3] w fun e w' => e = .returned (.bool true) ∧ Below w.heap.size w w' := by
  have H1 := Lib.hid h1
  have H2 := Lib.hid h2
  have H3 := Lib.hid h3
  clear h1 h2 h3
  obtain ⟨F1, hF1⟩ : ∃ F, fewM l1 = F := ⟨_, rfl⟩
  obtain ⟨F2, hF2⟩ : ∃ F, fewM l2 = F := ⟨_, rfl⟩
  obtain ⟨F3, hF3⟩ : ∃ F, fewL l3 = F := ⟨_, rfl⟩
  have HF1 := Lib.hid hF1
  have HF2 := Lib.hid hF2
  have HF3 := Lib.hid hF3
  clear hF1 hF2 hF3
  go_enter Try.func6, Try.ntmps6
  go_wp2_with fail
  refine (mworks_any _).mono ?_
  rintro e w1 ⟨rfl, hb1⟩
  have HB1 := Lib.hid hb1
  clear hb1
  go_wp2_with fail
  refine (fewM_any A1 n1 c1 l1 _ (H1.out.later HB1.out)).mono ?_
  rw [HF1.out]
  rintro e w1' ⟨rfl, rfl⟩
  cases F1 with
  | false =>
    go_wp2_with fail
    go_ret
    exact ⟨rfl, HB1.out⟩
  | true =>
  go_wp2_with fail
  refine (fewM_any A2 n2 c2 l2 _ (H2.out.later HB1.out)).mono ?_
  rw [HF2.out]
  rintro e w1' ⟨rfl, rfl⟩
  cases F2 with
  | false =>
    go_wp2_with fail
    go_ret
    exact ⟨rfl, HB1.out⟩
  | true =>
  go_wp2_with fail
  refine (fewL_any A3 n3 c3 l3 _ (H3.out.later HB1.out)).mono ?_
  rw [HF3.out]
  rintro e w1' ⟨rfl, rfl⟩
  cases F3 with
  | false =>
    go_wp2_with fail
    go_ret
    exact ⟨rfl, HB1.out⟩
  | true =>
  have m1 : n1 ≤ 10 := by rw [← H1.out.len]; exact fewM_len HF1.out
  have m2 : n2 ≤ 10 := by rw [← H2.out.len]; exact fewM_len HF2.out
  have m3 : n3 ≤ 10 := by rw [← H3.out.len]; exact fewL_len HF3.out
  go_wp2_with (at_builtin; first
    | (refine wpList_append_comes rfl _ _ 22 rfl w.heap.size 32 (.agg #[.int .i64 0, .string ByteArray.empty, .string ByteArray.empty]) 3 40 Try.underlying22 elemM rfl (by decide) w1 (World.ownsRow_nil w1 w.heap.size _ _) rfl rfl (H1.out.later HB1.out) (fun _ => rfl) oneM (by omega) (by omega) HB1.out.size ?_
       intro v2 w2 hown2 hb2
       have HB2 := Lib.hid (HB1.out.trans hb2)
       have HO2 := Lib.hid hown2
       clear hb2 hown2)
    | (refine wpList_append_comes rfl _ _ 22 rfl w.heap.size 32 (.agg #[.int .i64 0, .string ByteArray.empty, .string ByteArray.empty]) 3 40 Try.underlying22 elemM rfl (by decide) w2 HO2.out rfl rfl (H2.out.later HB2.out) (fun _ => rfl) oneM (by omega) (by omega) HB2.out.size ?_
       intro v3 w3 hown3 hb3
       have HB3 := Lib.hid (HB2.out.trans hb3)
       have hown3' : w3.ownsRow w.heap.size 32 3 v3 (n1 + n2) ((l1 ++ l2).flatMap encM) := by
         have := hown3
         rw [Nat.zero_add, List.nil_append] at this
         rw [List.flatMap_append]; exact this
       obtain ⟨A4, c4, rfl, -, hc4⟩ := Comes.of_own (okA := okM) hown3' (fun _ => rfl) (by decide) (ok_app H1.out.ok H2.out.ok)
       have HC4 := Lib.hid hc4
       clear hb3 hown3 hown3' hc4 HO2)
    | (refine wpList_append_comes rfl _ _ 22 rfl w3.heap.size 32 (.agg #[.int .i64 0, .string ByteArray.empty, .string ByteArray.empty]) 3 40 Try.underlying22 elemM rfl (by decide) w3 (World.ownsRow_nil w3 w3.heap.size _ _) rfl rfl (H2.out.later HB3.out) (fun _ => rfl) oneM (by omega) (by omega) (Nat.le_refl _) ?_
       intro v5 w5 hown5 hb5
       have HB35 := Lib.hid hb5
       have HB5 := Lib.hid (later HB3.out hb5)
       have HO5 := Lib.hid hown5
       clear hb5 hown5)
    | (refine wpList_append_comes rfl _ _ 22 rfl w3.heap.size 32 (.agg #[.int .i64 0, .string ByteArray.empty, .string ByteArray.empty]) 3 40 Try.underlying22 elemM rfl (by decide) w5 HO5.out rfl rfl (H1.out.later HB5.out) (fun _ => rfl) oneM (by omega) (by omega) HB35.out.size ?_
       intro v6 w6 hown6 hb6
       have hb36 := HB35.out.trans hb6
       have HB6 := Lib.hid (later HB3.out hb36)
       have hown6' : w6.ownsRow w3.heap.size 32 3 v6 (n2 + n1) ((l2 ++ l1).flatMap encM) := by
         have := hown6
         rw [Nat.zero_add, List.nil_append] at this
         rw [List.flatMap_append]; exact this
       obtain ⟨A6, c6, rfl, -, hc6⟩ := Comes.of_own (okA := okM) hown6' (fun _ => rfl) (by decide) (ok_app H2.out.ok H1.out.ok)
       have HC6 := Lib.hid hc6
       have HC46 := Lib.hid (HC4.out.later hb36)
       clear hb6 hb36 hown6 hown6' hc6 HO5 HB35 HC4))
  have HAB := Lib.hid (allB_append l1 l2 l3)
  have HBA := Lib.hid (allB_append l2 l1 l3)
  obtain ⟨P1, hP1⟩ : ∃ P, allB l1 l3 = P := ⟨_, rfl⟩
  obtain ⟨P2, hP2⟩ : ∃ P, allB l2 l3 = P := ⟨_, rfl⟩
  rw [hP1, hP2] at HAB HBA
  have HP1 := Lib.hid hP1
  have HP2 := Lib.hid hP2
  clear hP1 hP2
  refine (all_any A1 n1 c1 l1 A3 n3 c3 l3 _ (H1.out.later HB6.out) (H3.out.later HB6.out) (by omega) (by omega)).mono ?_
  rw [HP1.out]
  rintro e w7 ⟨rfl, hb7⟩
  have HB7 := Lib.hid (later HB6.out hb7)
  have HC47 := Lib.hid (HC46.out.later hb7)
  have HC67 := Lib.hid (HC6.out.later hb7)
  clear hb7 HC46 HC6
  cases P1 with
  | false =>
    go_wp2_with fail
    refine (all_any A4 (n1 + n2) c4 (l1 ++ l2) A3 n3 c3 l3 _ HC47.out (H3.out.later HB7.out) (by omega) (by omega)).mono ?_
    rw [HAB.out, Bool.false_and]
    rintro e w8 ⟨rfl, hb8⟩
    have HB8 := Lib.hid (later HB7.out hb8)
    have HC68 := Lib.hid (HC67.out.later hb8)
    clear hb8 HC47 HC67
    go_wp2_with fail
    refine (all_any A6 (n2 + n1) c6 (l2 ++ l1) A3 n3 c3 l3 _ HC68.out (H3.out.later HB8.out) (by omega) (by omega)).mono ?_
    rw [HBA.out, Bool.and_false]
    rintro e w9 ⟨rfl, hb9⟩
    have HB9 := Lib.hid (later HB8.out hb9)
    clear hb9
    go_wp2_with fail
    go_ret
    exact ⟨rfl, HB9.out⟩
  | true =>
    go_wp2_with fail
    refine (all_any A2 n2 c2 l2 A3 n3 c3 l3 _ (H2.out.later HB7.out) (H3.out.later HB7.out) (by omega) (by omega)).mono ?_
    rw [HP2.out]
    rintro e w8 ⟨rfl, hb8⟩
    have HB8 := Lib.hid (later HB7.out hb8)
    have HC48 := Lib.hid (HC47.out.later hb8)
    have HC68 := Lib.hid (HC67.out.later hb8)
    clear hb8 HC47 HC67
    go_wp2_with fail
    refine (all_any A4 (n1 + n2) c4 (l1 ++ l2) A3 n3 c3 l3 _ HC48.out (H3.out.later HB8.out) (by omega) (by omega)).mono ?_
    rw [HAB.out, Bool.true_and]
    rintro e w9 ⟨rfl, hb9⟩
    have HB9 := Lib.hid (later HB8.out hb9)
    have HC69 := Lib.hid (HC68.out.later hb9)
    clear hb9 HC48 HC68
    go_wp2_with fail
    refine (all_any A6 (n2 + n1) c6 (l2 ++ l1) A3 n3 c3 l3 _ HC69.out (H3.out.later HB9.out) (by omega) (by omega)).mono ?_
    rw [HBA.out, Bool.and_true]
    rintro e w10 ⟨rfl, hb10⟩
    have HB10 := Lib.hid (later HB9.out hb10)
    clear hb10
    go_wp2_with fail
    go_ret
    exact ⟨rfl, HB10.out⟩
end Go.Proofs.Ytdacefmcnjoboaa.LabW
