/-
  MatchKinds: THE PLAIN LAW, THE WALK.
-/
import Derived.Test.YtdacefmcnjoboaaMatLawM
namespace Go.Proofs.Ytdacefmcnjoboaa.LabW
open Go.RowKit Go.Shelf LabM
theorem toList_len (s : ByteArray) : s.toList.length = s.size := by rw [toList_data]; exact Array.length_toList
theorem okM_k {k : Int} {a b : ByteArray} (h0 : 0 ≤ k) (h1 : k ≤ 9) (ha : a.size ≤ maxLen) (hb : b.size ≤ maxLen) : okM (k, a, b) := ⟨by show _ ≤ k; omega, by show k ≤ _; omega, ha, hb⟩
theorem extract_toList (s : ByteArray) (k : Nat) : (s.extract 0 k).toList = s.toList.take k := by
  rw [toList_data, toList_data]; simp
theorem prefB_iff (v p : ByteArray) : prefB v p = true ↔ p.toList <+: v.toList := by
  unfold prefB
  rw [Bool.and_eq_true, decide_eq_true_iff, beq_iff_eq, extract_toList, List.prefix_iff_eq_take, toList_len]
  constructor
  · rintro ⟨-, h⟩; exact h.symm
  · intro h
    refine ⟨?_, h.symm⟩
    have := congrArg List.length h
    rw [List.length_take, toList_len, toList_len] at this
    omega
theorem kinds_one (V vl : ByteArray) (h : (V.toList == vl.toList) = true) : prefB V vl = true := by
  rw [prefB_iff, beq_iff_eq.1 h]; exact List.prefix_rfl
theorem kinds_two (V vl : ByteArray) (q : Nat) (h : prefB V vl = true) : prefB V (vl.extract 0 q) = true := by
  rw [prefB_iff] at h ⊢
  rw [extract_toList]
  exact (List.take_prefix _ _).trans h
theorem getL_there (l : List Lab) (nm : ByteArray) (h : thereB l nm = false) : getL l nm = ByteArray.empty := by
  induction l with
  | nil => rfl
  | cons x l ih =>
    unfold thereB at h ih
    rw [List.any_cons, Bool.or_eq_false_iff] at h
    unfold getL
    rw [if_neg (by rw [h.1]; exact Bool.false_ne_true)]
    exact ih h.2
theorem kinds_three (l : List Lab) (nm vl : ByteArray) (h : prefB (getL l nm) vl = true) (hv : ¬ vl.toList = []) : thereB l nm = true := by
  cases e : thereB l nm with
  | true => rfl
  | false =>
    rw [prefB_iff, getL_there l nm e] at h
    have h0 : ByteArray.empty.toList = [] := by rw [toList_data]; rfl
    rw [h0] at h
    exact absurd (List.prefix_nil.1 h) hv
set_option maxRecDepth 100000 in
set_option maxHeartbeats 4000000 in
theorem matchKinds_all (nm vl : ByteArray) (at_ : Nat) (A : Option Addr) (n c : Nat) (l : List Lab) (w : World) (hnm : nm.size ≤ maxLen) (hvl : vl.size ≤ maxLen) (hat : at_ ≤ 255) (hl : Comes w 2 encL okL A n c l) :
    Calls Try.prog 8 #[.string nm, .string vl, .int .u8 at_, .slice A n c] w fun e w' => e = .returned (.bool true) ∧ Below w.heap.size w w' := by
  have HL := Lib.hid hl
  clear hl
  have hnm' : nm.size ≤ 9223372036854775807 := hnm
  have hvl' : vl.size ≤ 9223372036854775807 := hvl
  have HZ := Lib.hid (And.intro hnm hvl)
  clear hnm hvl
  obtain ⟨F, hF⟩ : ∃ F, fewL l = F := ⟨_, rfl⟩
  have HF := Lib.hid hF
  clear hF
  go_enter Try.func8, Try.ntmps8
  go_wp2_with fail
  refine (mworks_any _).mono ?_
  rintro e w1 ⟨rfl, hb1⟩
  have HB1 := Lib.hid hb1
  clear hb1
  go_wp2_with fail
  refine (fewL_any A n c l _ (HL.out.later HB1.out)).mono ?_
  rw [HF.out]
  rintro e w1' ⟨rfl, rfl⟩
  cases F with
  | false =>
    go_wp2_with fail
    go_ret
    exact ⟨rfl, HB1.out⟩
  | true =>
  have m3 : n ≤ 10 := by rw [← HL.out.len]; exact fewL_len HF.out
  by_cases s1 : 300 < nm.size
  · go_wp2_with fail
    go_ret
    exact ⟨rfl, HB1.out⟩
  by_cases s2 : 300 < vl.size
  · go_wp2_with fail
    go_ret
    exact ⟨rfl, HB1.out⟩
  obtain ⟨q, hq⟩ : ∃ q, at_ % (vl.size + 1) = q := ⟨_, rfl⟩
  have hqv : q ≤ vl.size := by rw [← hq]; have := Nat.mod_lt at_ (show 0 < vl.size + 1 by omega); omega
  have hqi : Int.tmod (at_ : Int) ((vl.size : Int) + 1) = (q : Int) := by rw [← hq]; exact_mod_cast rfl
  have hsl := slice_to (P := Try.prog) Try.underlying9 vl (q : Int) q rfl hqv
  obtain ⟨pre, hpre⟩ : ∃ pre, vl.extract 0 q = pre := ⟨_, rfl⟩
  have hps : pre.size ≤ maxLen := by rw [← hpre, ByteArray.size_extract]; have := HZ.out.2; omega
  rw [hpre] at hsl
  obtain ⟨E, hE⟩ : ∃ E, fitsB (0, nm, vl) l = E := ⟨_, rfl⟩
  obtain ⟨B, hB⟩ : ∃ B, fitsB (2, nm, vl) l = B := ⟨_, rfl⟩
  obtain ⟨L, hL⟩ : ∃ L, fitsB (2, nm, pre) l = L := ⟨_, rfl⟩
  obtain ⟨T, hT⟩ : ∃ T, fitsB (3, nm, ByteArray.empty) l = T := ⟨_, rfl⟩
  have r1 : E = true → B = true := fun h => by rw [← hB, fitsB_2]; rw [← hE, fitsB_0] at h; exact kinds_one _ _ h
  have r2 : B = true → L = true := fun h => by rw [← hL, fitsB_2, ← hpre]; rw [← hB, fitsB_2] at h; exact kinds_two _ _ _ h
  have r3 : B = true → ¬ vl.toList = [] → T = true := fun h hv => by rw [← hT, fitsB_3]; rw [← hB, fitsB_2] at h; exact kinds_three _ _ _ h hv
  have HR := Lib.hid (And.intro r1 (And.intro r2 r3))
  have HE := Lib.hid hE
  have HBB := Lib.hid hB
  have HLL := Lib.hid hL
  have HT := Lib.hid hT
  have HP := Lib.hid hps
  clear r1 r2 r3 hE hB hL hT hps hpre hq
  go_wp2_with fail
  refine (fits_any (0, nm, vl) (okM_k (by decide) (by decide) HZ.out.1 HZ.out.2) A n c l _ (HL.out.later HB1.out) (by omega)).mono ?_
  rw [HE.out]
  rintro e w2 ⟨rfl, hb2⟩
  have HB2 := Lib.hid (later HB1.out hb2)
  clear hb2
  go_wp2_with fail
  refine (fits_any (2, nm, vl) (okM_k (by decide) (by decide) HZ.out.1 HZ.out.2) A n c l _ (HL.out.later HB2.out) (by omega)).mono ?_
  rw [HBB.out]
  rintro e w3 ⟨rfl, hb3⟩
  have HB3 := Lib.hid (later HB2.out hb3)
  clear hb3
  go_wp2_with fail
  refine (fits_any (2, nm, pre) (okM_k (by decide) (by decide) HZ.out.1 HP.out) A n c l _ (HL.out.later HB3.out) (by omega)).mono ?_
  rw [HLL.out]
  rintro e w4 ⟨rfl, hb4⟩
  have HB4 := Lib.hid (later HB3.out hb4)
  clear hb4
  go_wp2_with fail
  refine (fits_any (3, nm, ByteArray.empty) (okM_k (by decide) (by decide) HZ.out.1 (by decide)) A n c l _ (HL.out.later HB4.out) (by omega)).mono ?_
  rw [HT.out]
  rintro e w5 ⟨rfl, hb5⟩
  have HB5 := Lib.hid (later HB4.out hb5)
  clear hb5
  have hcase : (E = false ∧ B = false ∧ True) ∨ (B = true ∧ L = true ∧ vl.toList = []) ∨ (B = true ∧ L = true ∧ (¬ vl.toList = []) ∧ T = true) := by
    obtain ⟨r1, r2, r3⟩ := HR.out
    cases B with
    | true =>
      by_cases hv : vl.toList = []
      · exact .inr (.inl ⟨rfl, r2 rfl, hv⟩)
      · exact .inr (.inr ⟨rfl, r2 rfl, hv, r3 rfl hv⟩)
    | false =>
      cases E with
      | true => exact absurd (r1 rfl) Bool.false_ne_true
      | false => exact .inl ⟨rfl, rfl, trivial⟩
  clear HR HE HBB HLL HT HP
  rcases hcase with ⟨rfl, rfl, -⟩ | ⟨rfl, rfl, hv⟩ | ⟨rfl, rfl, hv, rfl⟩
  · go_wp2_with fail
    go_ret
    exact ⟨rfl, HB5.out⟩
  · cases E <;> (
      go_wp2_with fail
      go_ret
      exact ⟨rfl, HB5.out⟩)
  · cases E <;> (
      go_wp2_with fail
      go_ret
      exact ⟨rfl, HB5.out⟩)
end Go.Proofs.Ytdacefmcnjoboaa.LabW
