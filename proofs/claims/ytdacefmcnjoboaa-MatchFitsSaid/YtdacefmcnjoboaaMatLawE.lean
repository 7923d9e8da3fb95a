/-
  MatchEach: THE WALK.
-/
import Derived.Test.YtdacefmcnjoboaaMatLawM
import Derived.Test.YtdacefmcnjoboaaMatOpen
namespace Go.Proofs.Ytdacefmcnjoboaa.LabW
open Go.RowKit Go.Shelf LabM
theorem Comes.any {α : Type} {w : World} {size : Nat} {encA : α → List Value} {okA : α → Prop} {A : Option Addr} {n c : Nat} {l : List α} (h : Comes w size encA okA A n c l) : Comes w size encA (fun _ => True) A n c l := ⟨h.len, h.le, h.cap, h.lies, fun _ _ => trivial⟩
theorem allB_nil (l : List Lab) : allB [] l = true := rfl
theorem places_nil (ls : List Hdr) : (places [] ls).length = ls.length := by
  rw [places_def]
  have : (List.range ls.length).filter (fitAt [] ls) = List.range ls.length := by
    rw [List.filter_eq_self]
    intro i hi
    rw [List.mem_range] at hi
    unfold fitAt
    rw [List.getElem?_eq_getElem hi]
    rfl
  rw [this, List.length_range]
set_option maxRecDepth 100000 in
set_option maxHeartbeats 4000000 in
theorem matchEach_all (A1 : Option Addr) (n1 c1 : Nat) (ms : List Mat) (A : Option Addr) (n c : Nat) (ls : List Hdr) (w : World) (hms : Comes w 3 encM okM A1 n1 c1 ms) (hl : Comes w 1 encH (hdrIn w) A n c ls) :
    Calls Try.prog 9 #[.slice A1 n1 c1, .slice A n c] w fun e w' => e = .returned (.bool true) ∧ Below w.heap.size w w' := by
  have HM := Lib.hid hms
  have HL := Lib.hid hl
  have hcap : c ≤ 9223372036854775807 := hl.cap
  have hle := hl.le
  clear hms hl
  obtain ⟨F, hF⟩ : ∃ F, fewM ms = F := ⟨_, rfl⟩
  have HF := Lib.hid hF
  clear hF
  go_enter Try.func9, Try.ntmps9
  go_wp2_with fail
  refine (mworks_any _).mono ?_
  rintro e w1 ⟨rfl, hb1⟩
  have HB1 := Lib.hid hb1
  clear hb1
  go_wp2_with fail
  refine (fewM_any A1 n1 c1 ms _ (HM.out.later HB1.out)).mono ?_
  rw [HF.out]
  rintro e w1' ⟨rfl, rfl⟩
  cases F with
  | false =>
    go_wp2_with fail
    go_ret
    exact ⟨rfl, HB1.out⟩
  | true =>
  have m1 : n1 ≤ 10 := by rw [← HM.out.len]; exact fewM_len HF.out
  by_cases n60 : 60 < n
  · go_wp2_with fail
    go_ret
    exact ⟨rfl, HB1.out⟩
  go_wp2_with fail
  go_loopw [7, 8] (fun v7 _ wr => ∃ k : Nat, k ≤ n ∧ v7 = .int .i64 k ∧ Below w.heap.size w wr ∧ ∀ x ∈ ls.take k, fewL x.2 = true) (fun v7 _ _ => n - (intOf v7).toNat)
  case atStart => exact ⟨0, Nat.zero_le _, rfl, HB1.out, fun x hx => by simp at hx⟩
  case round =>
    obtain ⟨k, hk, rfl, ho, hfew⟩ := hrel
    have hln := HL.out.len
    by_cases hlt : k < n
    · have hkl : k < ls.length := by omega
      obtain ⟨b, o, rfl, hcs⟩ := H_cells HL.out.lies hkl
      have hc0 := hcs _ ho
      have hx := HL.out.ok _ (List.getElem_mem hkl)
      have htk := take_snocL ls k hkl
      generalize ls[k] = x at *
      obtain ⟨⟨Ax, nx, cx⟩, lx⟩ := x
      simp only [] at hc0
      have HO := Lib.hid ho
      have HT := Lib.hid (And.intro htk hfew)
      have HX := Lib.hid (show Comes w 2 encL okL Ax nx cx lx from hx)
      have i0 : (0 : Int) ≤ (k : Int) := by omega
      have i1 : (k : Int) < (n : Int) := by omega
      clear ho hln hcs hfew hx htk
      obtain ⟨G, hG⟩ : ∃ G, fewL lx = G := ⟨_, rfl⟩
      have HG := Lib.hid hG
      clear hG
      go_wp2_with fail
      refine (fewL_any Ax nx cx lx _ (HX.out.later HO.out)).mono ?_
      rw [HG.out]
      rintro e w' ⟨rfl, rfl⟩
      cases G with
      | false =>
        go_wp2_with fail
        go_ret
        exact ⟨rfl, HO.out⟩
      | true =>
        go_wp2_with fail
        go_roundw
        case rel =>
          refine ⟨k + 1, by omega, by go_num, HO.out, fun x hx => ?_⟩
          rw [HT.out.1] at hx
          rcases List.mem_append.1 hx with hx | hx
          · exact HT.out.2 x hx
          · rw [List.mem_singleton.1 hx]; exact HG.out
        case measure => simp [intOf]; omega
    · obtain rfl : k = n := by omega
      rw [List.take_of_length_le (by omega)] at hfew
      have hs : ∀ x ∈ ls, okH w x := fun x hx => ⟨HL.out.ok x hx, by
        have h1 := (show Comes w 2 encL okL x.1.1 x.1.2.1 x.1.2.2 x.2 from HL.out.ok x hx).len
        have h2 := fewL_len (hfew x hx)
        omega⟩
      have hs' : ∀ W, Below w.heap.size w W → ∀ x ∈ ls, okH W x := fun W hW x hx => ⟨(hs x hx).1.later hW, (hs x hx).2⟩
      have HS := Lib.hid (And.intro hs hs')
      have HB := Lib.hid ho
      have HN := Lib.hid hln
      clear hs hs' ho hfew hln
      go_wp2_with fail
      refine (select_any A1 n1 c1 ms A k c ls _ (HM.out.later HB.out) (Comes.any (HL.out.later HB.out)) (HS.out.2 _ HB.out) (by omega) (by omega)).mono ?_
      rintro e w2 ⟨v2, rfl, hown2, hb2⟩
      obtain ⟨A2, c2, rfl, -, hc2⟩ := Comes.of_own (okA := fun _ => True) hown2 (fun _ => rfl) (by decide) (fun _ _ => trivial)
      have hpl : (places ms ls).length ≤ k := by
        rw [places_def]
        have := List.length_filter_le (fitAt ms ls) (List.range ls.length)
        rw [List.length_range] at this
        have := HN.out
        omega
      have hcap2 : c2 ≤ 9223372036854775807 := hc2.cap
      have hle2 := hc2.le
      have HB2 := Lib.hid (later HB.out hb2)
      have HC2 := Lib.hid hc2
      have HPR : Hid (∀ i, i < k → fitAt ms ls i = true → (places ms ls)[((List.range i).filter (fitAt ms ls)).length]? = some i) := Lib.hid fun i hi hp => by
        rw [places_def, HN.out]; exact filter_range_at (fitAt ms ls) k i hi hp
      have HPE : Hid (((List.range k).filter (fitAt ms ls)).length = (places ms ls).length) := Lib.hid (by rw [places_def, HN.out])
      obtain ⟨P, hP⟩ : ∃ P, places ms ls = P := ⟨_, rfl⟩
      rw [hP] at HC2 HPR HPE hpl hle2 ⊢
      obtain ⟨pl, hpll⟩ : ∃ pl, P.length = pl := ⟨_, rfl⟩
      rw [hpll] at HC2 HPE hpl hle2 ⊢
      have HPL := Lib.hid hpll
      clear hown2 hb2 hc2 hP hpll
      go_wp2_with fail
      go_loopw [10, 11] (fun v10 v11 wr => ∃ i : Nat, i ≤ k ∧ v11 = .int .i64 i ∧ v10 = .int .i64 (((List.range i).filter (fitAt ms ls)).length : Nat) ∧ Below w.heap.size w wr ∧ Below w2.heap.size w2 wr) (fun _ v11 _ => k - (intOf v11).toNat)
      case atStart => exact ⟨0, Nat.zero_le _, rfl, rfl, HB2.out, Below.refl _ _⟩
      case round =>
        obtain ⟨i, hi, rfl, rfl, ho, ho2⟩ := hrel
        have hln := HN.out
        by_cases hlt : i < k
        · have hkl : i < ls.length := by omega
          obtain ⟨b, o, rfl, hcs⟩ := H_cells HL.out.lies hkl
          have hc0 := hcs _ ho
          have hx := HS.out.1 _ (List.getElem_mem hkl)
          have hfa : fitAt ms ls i = allB ms ls[i].2 := by unfold fitAt; rw [List.getElem?_eq_getElem hkl]
          have htf := range_filter_snoc (fitAt ms ls) i
          have hpr := HPR.out i hlt
          have hq : ((List.range i).filter (fitAt ms ls)).length ≤ i := by
            have h1 := List.length_filter_le (fitAt ms ls) (List.range i)
            rw [List.length_range] at h1
            exact h1
          rw [hfa] at htf hpr
          generalize ls[i] = x at *
          obtain ⟨⟨Ax, nx, cx⟩, lx⟩ := x
          simp only [] at hc0 htf hpr
          generalize (List.range i).filter (fitAt ms ls) = Fl at *
          obtain ⟨q, hqq⟩ : ∃ q, Fl.length = q := ⟨_, rfl⟩
          rw [hqq] at hq hpr ⊢
          have HX := Lib.hid hx
          have HO := Lib.hid (And.intro ho ho2)
          have HT := Lib.hid (And.intro htf hqq)
          have HPP := Lib.hid hpr
          have i0 : (0 : Int) ≤ (i : Int) := by omega
          have i1 : (i : Int) < (k : Int) := by omega
          clear ho ho2 hln hcs hx hfa htf hpr hqq
          go_wp2_with fail
          refine (all_any A1 n1 c1 ms Ax nx cx lx _ (HM.out.later HO.out.1) (HX.out.1.later HO.out.1) (by omega) HX.out.2).mono ?_
          rintro e w4 ⟨rfl, hb4⟩
          have HO4 := Lib.hid (And.intro (later HO.out.1 hb4) (later HO.out.2 hb4))
          clear hb4 hc0
          cases hfit : allB ms lx
          · rw [hfit, if_neg (by decide), List.append_nil] at HT
            clear hfit
            go_wp2_with fail
            go_roundw
            case rel => exact ⟨i + 1, by omega, by go_num, by rw [HT.out.1, HT.out.2], HO4.out.1, HO4.out.2⟩
            case measure => simp [intOf]; omega
          · rw [hfit, if_pos rfl] at HT
            have hpi := HPP.out hfit
            obtain ⟨hql, hpi2⟩ := List.getElem?_eq_some_iff.1 hpi
            obtain ⟨b2, o2, rfl, hcs2⟩ := N_cells HC2.out.lies hql
            have hd0 := hcs2 _ HO4.out.2
            rw [hpi2] at hd0
            have hqpl : q < pl := by rw [← HPL.out]; exact hql
            have j0 : (0 : Int) ≤ (q : Int) := by omega
            have j1 : (q : Int) < (pl : Int) := by omega
            clear hfit hpi hql hpi2 hcs2
            go_wp2_with fail
            go_roundw
            case rel => exact ⟨i + 1, by omega, by go_num, by rw [HT.out.1, List.length_append, HT.out.2, List.length_singleton]; go_num, HO4.out.1, HO4.out.2⟩
            case measure => simp [intOf]; omega
        · obtain rfl : i = k := by omega
          rw [HPE.out]
          have HO := Lib.hid ho
          clear ho ho2 hln
          go_wp2_with fail
          refine (select_any none 0 0 [] A i c ls _ (Comes.nil _ _ _ _) (Comes.any (HL.out.later HO.out)) (HS.out.2 _ HO.out) (by omega) (by omega)).mono ?_
          rintro e w5 ⟨v5, rfl, hown5, hb5⟩
          obtain ⟨A5, c5, rfl, -, -⟩ := Comes.of_own (okA := fun _ => True) hown5 (fun _ => rfl) (by decide) (fun _ _ => trivial)
          rw [places_nil, HN.out]
          have HB5 := Lib.hid (later HO.out hb5)
          clear hown5 hb5
          go_wp2_with fail
          go_ret
          exact ⟨rfl, HB5.out⟩
end Go.Proofs.Ytdacefmcnjoboaa.LabW
