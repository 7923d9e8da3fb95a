/-
  FrameCut: THE WALK.
-/
import Derived.Test.YtmaehbcjcifchaaFrCutM
namespace Go.Proofs.Ytmaehbcjcifchaa.FrW
set_option linter.unusedVariables false
open Go.RowKit CrcM CrcW FrM
theorem elemInt : Elem Try.prog 3 (.int .i64 0) 1 8 := by unfold Elem; kernel_rfl
theorem cut_tup (l : List (List UInt8)) (hl : leAll l) (hn : l.length ≤ 20) (j m : Nat) (hj : j ≤ l.length) (h1 : eAt l j ≤ m) (h2 : m ≤ (flat l).length) (h3 : j < l.length → m < eAt l (j + 1)) (w : World) :
    Calls Try.prog 16 #[.string (bs ((flat l).take m)), .int .i64 400] w fun e w' => ∃ A c, e = .returned (.tuple #[.slice A j c, .int .i64 (eAt l j : Int), .int .i64 (if m = eAt l j then 0 else 1)]) ∧
      Comes w' 1 encT okT A j c (l.take j) ∧ Below w.heap.size w w' := by
  obtain ⟨R, e1, e2⟩ := cut_law l hl j m hj h1 h2 h3
  have h8 : (flat l).length ≤ 8280 := by have := flat_le l hl; omega
  have htl : ((flat l).take m).length = m := by rw [List.length_take]; omega
  have hlj : (l.take j).length = j := by rw [List.length_take]; omega
  have h := split_tup ((flat l).take m) 400 w (by rw [htl]; omega) (by omega)
  rw [e1, htl] at h
  simp only [hlj] at h
  refine h.mono ?_
  rintro e w' ⟨A, c, rfl, hc, hb⟩
  refine ⟨A, c, ?_, comes_to hc (fun x hx => by have := hl x (List.mem_of_mem_take hx); unfold okT; omega), hb⟩
  rw [show ((m : Int) - (R.length : Int)) = (eAt l j : Int) by omega]
  split <;> rfl
set_option maxRecDepth 20000 in
set_option maxHeartbeats 8000000 in
theorem frameCut_all (A : Option Addr) (n c : Nat) (l : List (List UInt8)) (at_ : Int) (w : World) (hl : Comes w 1 encT okT A n c l) (hat : -9223372036854775808 ≤ at_ ∧ at_ ≤ 9223372036854775807) :
    Calls Try.prog 5 #[.slice A n c, .int .i64 at_] w fun e w' => e = .returned (.bool true) ∧ Below w.heap.size w w' := by
  have hcap : c ≤ 9223372036854775807 := hl.cap
  have hle := hl.le
  have HL := Lib.hid hl
  clear hl
  by_cases hex : 20 < n
  · go_enter Try.func5, Try.ntmps5
    go_wp2_with fail
    refine (works_any _).mono ?_
    rintro e w1 ⟨rfl, hb1⟩
    go_wp2
    go_ret
    exact ⟨rfl, hb1⟩
  have hn20 : n ≤ 20 := by omega
  have HLL := Lib.hid HL.out.len
  clear hex
  go_enter Try.func5, Try.ntmps5
  go_wp2_with fail
  refine (works_any _).mono ?_
  rintro e w1 ⟨rfl, hb1⟩
  have HB1 := Lib.hid hb1
  have HO1 := Lib.hid (show (w1.alloc (.cells #[.int .i64 0] 3 (0, 0))).ownsRow w.heap.size 3 1 (.slice (some ⟨w1.heap.size, 0, none⟩) 1 1) (0 + 1) (ends l 0) from World.ownsRow_lit (base := w.heap.size) (e := 3) (size := 1) w1 #[.int .i64 0] 1 hb1.size (by decide) rfl)
  have HB1A := Lib.hid (hb1.alloc hb1.size (.cells #[.int .i64 0] 3 (0, 0)))
  clear hb1
  go_wp2_with fail
  go_loopw [6, 7, 8] (fun v6 v7 v8 wr => ∃ k : Nat, k ≤ n ∧ v8 = .int .i64 k ∧ v6 = .string (bs (flat (l.take k))) ∧ leAll (l.take k) ∧ wr.ownsRow w.heap.size 3 1 v7 (k + 1) (ends l k) ∧ Below w.heap.size w wr) (fun _ _ v8 _ => n - (intOf v8).toNat)
  case atStart => exact ⟨0, Nat.zero_le _, rfl, rfl, fun b h => by simp at h, HO1.out, HB1A.out⟩
  case round =>
    obtain ⟨k, hk, rfl, rfl, ht, hown, ho⟩ := hrel
    have hln := HLL.out
    have hfl := flat_le _ ht
    have htl : (l.take k).length = k := by rw [List.length_take]; omega
    rw [htl] at hfl
    have hzf := bs_size (flat (l.take k))
    obtain ⟨fn, hfn⟩ : ∃ n, (flat (l.take k)).length = n := ⟨_, rfl⟩
    rw [hfn] at hzf hfl
    have hfb : fn ≤ 8280 := by omega
    clear htl hfl
    have HW := Lib.hid hown
    clear hown
    by_cases hlt : k < n
    · have hkl : k < l.length := by omega
      obtain ⟨b, o, rfl, hcs⟩ := t_cells HL.out.lies hkl
      have hc0 := hcs _ ho
      have hs1 : l.take (k + 1) = l.take k ++ [l[k]] := by rw [List.take_add_one, List.getElem?_eq_getElem hkl]; rfl
      have hokx := HL.out.ok l[k] (List.getElem_mem hkl)
      obtain ⟨x, hx⟩ : ∃ x, l[k] = x := ⟨_, rfl⟩
      rw [hx] at hc0 hs1 hokx
      have hzx := bs_size x
      have HO := Lib.hid ho
      have HT := Lib.hid ht
      have HS := Lib.hid hs1
      have i0 : (0 : Int) ≤ (k : Int) := by omega
      have i1 : (k : Int) < (n : Int) := by omega
      clear hx hs1 ht hcs hln hkl
      by_cases hx4 : x.length ≤ 400
      · have HP := Lib.hid (fun W => put_any x W (by omega))
        have HF := Lib.hid (show bs (flat (l.take k)) ++ bs (frm x) = bs (flat (l.take (k + 1))) by rw [bs_append, HS.out, flat_snoc])
        have HNX := Lib.hid (show leAll (l.take (k + 1)) by rw [HS.out]; exact leAll_snoc HT.out hx4)
        have hzp := bs_size (frm x)
        have hfx := frm_le x
        have hz1 := bs_size (flat (l.take (k + 1)))
        have hz2 : (flat (l.take (k + 1))).length ≤ 9000 := by rw [HS.out, flat_snoc, List.length_append, hfn]; omega
        have HEN := Lib.hid (ends_succ l k)
        unfold eAt at HEN
        obtain ⟨P, hP⟩ : ∃ P, bs (frm x) = P := ⟨_, rfl⟩
        obtain ⟨Z, hZ⟩ : ∃ Z, bs x = Z := ⟨_, rfl⟩
        obtain ⟨F, hF⟩ : ∃ F, bs (flat (l.take k)) = F := ⟨_, rfl⟩
        obtain ⟨F2, hF2⟩ : ∃ F, bs (flat (l.take (k + 1))) = F := ⟨_, rfl⟩
        rw [hP] at HP HF hzp
        rw [hZ] at hc0 hzx HP
        rw [hF] at HF hzf ⊢
        rw [hF2] at HF hz1
        obtain ⟨pn, hpn⟩ : ∃ n, (frm x).length = n := ⟨_, rfl⟩
        obtain ⟨xn, hxn⟩ : ∃ n, x.length = n := ⟨_, rfl⟩
        obtain ⟨f2, hf2⟩ : ∃ n, (flat (l.take (k + 1))).length = n := ⟨_, rfl⟩
        rw [hpn] at hzp hfx
        rw [hxn] at hzx hx4 hfx
        rw [hf2] at hz1 hz2 HEN
        have HF2 := Lib.hid hF2
        clear hP hZ hF hpn hxn hokx ho hF2 hf2
        go_wp2_with fail
        refine (HP.out _).mono ?_
        rintro e w2 ⟨rfl, hb2⟩
        have hsum : F ++ P = F2 := HF.out
        have HB2 := Lib.hid (later HO.out hb2)
        have hown1 := own_later HW.out hb2
        clear hb2
        go_wp2_with (at_builtin; go_must (refine wpList_append_one rfl _ _ 34 rfl w.heap.size 3 (.int .i64 0) 1 8 Try.underlying34 elemInt rfl (by decide) w2 hown1 rfl _ rfl rfl (one1 rfl) (by omega) (by omega) HB2.out.size ?_); intro v' w' hown' hb' hz')
        clear hown1
        go_roundw
        case rel => exact ⟨k + 1, by omega, by go_num, by rw [HF2.out], HNX.out, by rw [HEN.out]; exact hown', HB2.out.trans hb'⟩
        case measure => simp [intOf]; omega
      · have hx5 : 400 < x.length := by omega
        obtain ⟨Z, hZ⟩ : ∃ Z, bs x = Z := ⟨_, rfl⟩
        obtain ⟨F, hF⟩ : ∃ F, bs (flat (l.take k)) = F := ⟨_, rfl⟩
        rw [hZ] at hc0 hzx
        rw [hF] at hzf ⊢
        unfold okT at hokx
        obtain ⟨xn, hxn⟩ : ∃ n, x.length = n := ⟨_, rfl⟩
        rw [hxn] at hzx hx5 hokx
        clear hZ hF hxn hx4 ho
        go_wp2_with fail
        go_ret
        exact ⟨rfl, HO.out⟩
    · obtain rfl : k = n := by omega
      have htl : l.take k = l := List.take_of_length_le (by omega)
      rw [htl] at ht hzf hfn ⊢
      have HT := Lib.hid ht
      have hw0 := HW.out
      obtain ⟨g, cap, rfl⟩ := ownsRow_succ hw0
      have HCC : Hid (∀ W, Below wr.heap.size wr W → ∀ j, j ≤ k → W.cell? ⟨g, j, none⟩ = some (.int .i64 (eAt l j : Int))) := Lib.hid (fun W h j hj => by
        have h1 := own_later hw0 h
        rw [h1.cellAt j (by omega)]; exact ends_at l k j hj)
      have HE0 := Lib.hid (show eAt l 0 = 0 from rfl)
      have hsl0 := fun m (h : m ≤ (bs (flat l)).size) => slice_to (P := Try.prog) Try.underlying9 (bs (flat l)) (m : Int) m rfl h
      obtain ⟨m, mi, hm, hmi, hat3⟩ : ∃ (m : Nat) (mi : Int), m ≤ fn ∧ (m : Int) = mi ∧ ((at_ < 0 ∧ mi = 0) ∨ (0 ≤ at_ ∧ at_ ≤ (fn : Int) ∧ mi = at_) ∨ ((fn : Int) < at_ ∧ mi = (fn : Int))) := by
        by_cases h1 : at_ < 0
        · exact ⟨0, 0, by omega, rfl, .inl ⟨h1, rfl⟩⟩
        by_cases h2 : (fn : Int) < at_
        · exact ⟨fn, _, Nat.le_refl _, rfl, .inr (.inr ⟨h2, rfl⟩)⟩
        · exact ⟨at_.toNat, at_, by omega, by omega, .inr (.inl ⟨by omega, by omega, rfl⟩)⟩
      have HCT0 := Lib.hid (fun j (hj : j ≤ k) (h1 : eAt l j ≤ m) (h3 : j < k → m < eAt l (j + 1)) => cut_tup l ht (by omega) j m (by omega) h1 (by omega) (fun h => h3 (by omega)))
      have hsl := hsl0 m (by omega)
      rw [bs_extract] at hsl
      simp only [List.drop_zero, Nat.sub_zero] at hsl
      obtain ⟨F, hF⟩ : ∃ F, bs (flat l) = F := ⟨_, rfl⟩
      obtain ⟨Fm, hFm⟩ : ∃ F, bs ((flat l).take m) = F := ⟨_, rfl⟩
      rw [hF] at hzf hsl ⊢
      rw [hFm, hmi] at hsl
      rw [hFm] at HCT0
      have HM := Lib.hid hm
      have HMI := Lib.hid hmi
      have HOS := Lib.hid ho.size
      clear hF hFm ht htl hfn hlt hln hsl0 hw0 HW hm hmi
      obtain ⟨wo, hwo⟩ : ∃ wo, wo = wr := ⟨_, rfl⟩
      subst hwo
      rcases hat3 with ⟨h1, hmi0⟩ | ⟨h1, h2, hmi0⟩ | ⟨h2, hmi0⟩
      · subst hmi0
        go_wp2_with fail
        go_loopw [9] (fun v9 wq => ∃ j : Nat, j ≤ k ∧ v9 = .int .i64 j ∧ eAt l j ≤ m ∧ Below wo.heap.size wo wq) (fun v9 _ => k - (intOf v9).toNat)
        case atStart => exact ⟨0, Nat.zero_le _, rfl, by rw [HE0.out]; omega, Below.refl _ _⟩
        case round =>
          obtain ⟨j, hj, rfl, hej, hr⟩ := hrel
          have i0 : (0 : Int) ≤ (j : Int) := by omega
          by_cases hjk : j < k
          · obtain ⟨e1, he1⟩ : ∃ e, eAt l (j + 1) = e := ⟨_, rfl⟩
            obtain ⟨j1, hj1⟩ : ∃ q, j + 1 = q := ⟨_, rfl⟩
            have hc1 := HCC.out _ hr (j + 1) (by omega)
            rw [he1, hj1] at hc1
            have q1 : (j : Int) + 1 = (j1 : Int) := by omega
            have q2 : (0 : Int) ≤ (j1 : Int) := by omega
            have q3 : (j1 : Int) < (k : Int) + 1 := by omega
            by_cases hle1 : e1 ≤ m
            · have q4 : (e1 : Int) ≤ (0 : Int) := by rw [← HMI.out]; omega
              have HR := Lib.hid hr
              have HE1 := Lib.hid he1
              have HQ := Lib.hid hj1
              clear he1 hr
              go_wp2_with fail
              go_roundw
              case rel => exact ⟨j + 1, by omega, by go_num, by rw [HE1.out]; exact hle1, HR.out⟩
              case measure => simp [intOf]; omega
            · have q4 : ¬ ((e1 : Int) ≤ (0 : Int)) := by rw [← HMI.out]; omega
              have h3 : j < k → m < eAt l (j + 1) := fun _ => by rw [he1]; omega
              clear he1
              have HB9 := Lib.hid (ho.trans (hr.mono HOS.out))
              obtain ⟨ev, hev⟩ : ∃ e, eAt l j = e := ⟨_, rfl⟩
              have hca : ∀ W, Below wo.heap.size wo W → W.cell? ⟨g, j, none⟩ = some (.int .i64 (ev : Int)) := fun W h => by rw [HCC.out W h j hj, hev]
              have HCA := Lib.hid hca
              have HR := Lib.hid hr
              have HTK := Lib.hid (fun W (h : Below w.heap.size w W) => comes_take (HL.out.later h) j hj)
              have HCT := Lib.hid (HCT0.out j hj hej h3)
              rw [hev] at HCT
              by_cases hme : m = ev
              · rw [if_pos hme] at HCT
                have hmb : ((ev : Int) == (0 : Int)) = true := by rw [← HMI.out]; simp; omega
                clear hev hca hr hej hme h3
                go_wp2_with fail
                refine (HCT.out _).mono ?_
                rintro e w3 ⟨A3, c3, rfl, hc3, hb3⟩
                have HR3 := Lib.hid (HR.out.trans (hb3.mono HR.out.size))
                have HB3 := Lib.hid (later HB9.out hb3)
                have HC3 := Lib.hid hc3
                clear hb3 hc3
                go_wp2_with fail
                refine (texts_any A3 j c3 (l.take j) A j c (l.take j) w3 HC3.out (HTK.out _ HB3.out)).mono ?_
                rw [decide_eq_true (rfl : l.take j = l.take j)]
                rintro e w4 ⟨rfl, hb4⟩
                have hcj4 := HCA.out w4 (HR3.out.trans (hb4.mono HR3.out.size))
                have i1 : (j : Int) < (k : Int) + 1 := by omega
                have HB4 := Lib.hid (later HB3.out hb4)
                clear hb4
                go_wp2
                go_ret
                exact ⟨rfl, HB4.out⟩
              · rw [if_neg hme] at HCT
                have hmb : ((ev : Int) == (0 : Int)) = false := by rw [← HMI.out]; simp; omega
                clear hev hca hr hej hme h3
                go_wp2_with fail
                refine (HCT.out _).mono ?_
                rintro e w3 ⟨A3, c3, rfl, hc3, hb3⟩
                have HR3 := Lib.hid (HR.out.trans (hb3.mono HR.out.size))
                have HB3 := Lib.hid (later HB9.out hb3)
                have HC3 := Lib.hid hc3
                clear hb3 hc3
                go_wp2_with fail
                refine (texts_any A3 j c3 (l.take j) A j c (l.take j) w3 HC3.out (HTK.out _ HB3.out)).mono ?_
                rw [decide_eq_true (rfl : l.take j = l.take j)]
                rintro e w4 ⟨rfl, hb4⟩
                have hcj4 := HCA.out w4 (HR3.out.trans (hb4.mono HR3.out.size))
                have i1 : (j : Int) < (k : Int) + 1 := by omega
                have HB4 := Lib.hid (later HB3.out hb4)
                clear hb4
                go_wp2
                go_ret
                exact ⟨rfl, HB4.out⟩
          · obtain rfl : j = k := by omega
            have h3 : j < j → m < eAt l (j + 1) := fun h => by omega
            have HB9 := Lib.hid (ho.trans (hr.mono HOS.out))
            obtain ⟨ev, hev⟩ : ∃ e, eAt l j = e := ⟨_, rfl⟩
            have hca : ∀ W, Below wo.heap.size wo W → W.cell? ⟨g, j, none⟩ = some (.int .i64 (ev : Int)) := fun W h => by rw [HCC.out W h j hj, hev]
            have HCA := Lib.hid hca
            have HR := Lib.hid hr
            have HTK := Lib.hid (fun W (h : Below w.heap.size w W) => comes_take (HL.out.later h) j hj)
            have HCT := Lib.hid (HCT0.out j hj hej h3)
            rw [hev] at HCT
            by_cases hme : m = ev
            · rw [if_pos hme] at HCT
              have hmb : ((ev : Int) == (0 : Int)) = true := by rw [← HMI.out]; simp; omega
              clear hev hca hr hej hme h3
              go_wp2_with fail
              refine (HCT.out _).mono ?_
              rintro e w3 ⟨A3, c3, rfl, hc3, hb3⟩
              have HR3 := Lib.hid (HR.out.trans (hb3.mono HR.out.size))
              have HB3 := Lib.hid (later HB9.out hb3)
              have HC3 := Lib.hid hc3
              clear hb3 hc3
              go_wp2_with fail
              refine (texts_any A3 j c3 (l.take j) A j c (l.take j) w3 HC3.out (HTK.out _ HB3.out)).mono ?_
              rw [decide_eq_true (rfl : l.take j = l.take j)]
              rintro e w4 ⟨rfl, hb4⟩
              have hcj4 := HCA.out w4 (HR3.out.trans (hb4.mono HR3.out.size))
              have i1 : (j : Int) < (j : Int) + 1 := by omega
              have HB4 := Lib.hid (later HB3.out hb4)
              clear hb4
              go_wp2
              go_ret
              exact ⟨rfl, HB4.out⟩
            · rw [if_neg hme] at HCT
              have hmb : ((ev : Int) == (0 : Int)) = false := by rw [← HMI.out]; simp; omega
              clear hev hca hr hej hme h3
              go_wp2_with fail
              refine (HCT.out _).mono ?_
              rintro e w3 ⟨A3, c3, rfl, hc3, hb3⟩
              have HR3 := Lib.hid (HR.out.trans (hb3.mono HR.out.size))
              have HB3 := Lib.hid (later HB9.out hb3)
              have HC3 := Lib.hid hc3
              clear hb3 hc3
              go_wp2_with fail
              refine (texts_any A3 j c3 (l.take j) A j c (l.take j) w3 HC3.out (HTK.out _ HB3.out)).mono ?_
              rw [decide_eq_true (rfl : l.take j = l.take j)]
              rintro e w4 ⟨rfl, hb4⟩
              have hcj4 := HCA.out w4 (HR3.out.trans (hb4.mono HR3.out.size))
              have i1 : (j : Int) < (j : Int) + 1 := by omega
              have HB4 := Lib.hid (later HB3.out hb4)
              clear hb4
              go_wp2
              go_ret
              exact ⟨rfl, HB4.out⟩
      · subst hmi0
        go_wp2_with fail
        go_loopw [9] (fun v9 wq => ∃ j : Nat, j ≤ k ∧ v9 = .int .i64 j ∧ eAt l j ≤ m ∧ Below wo.heap.size wo wq) (fun v9 _ => k - (intOf v9).toNat)
        case atStart => exact ⟨0, Nat.zero_le _, rfl, by rw [HE0.out]; omega, Below.refl _ _⟩
        case round =>
          obtain ⟨j, hj, rfl, hej, hr⟩ := hrel
          have i0 : (0 : Int) ≤ (j : Int) := by omega
          by_cases hjk : j < k
          · obtain ⟨e1, he1⟩ : ∃ e, eAt l (j + 1) = e := ⟨_, rfl⟩
            obtain ⟨j1, hj1⟩ : ∃ q, j + 1 = q := ⟨_, rfl⟩
            have hc1 := HCC.out _ hr (j + 1) (by omega)
            rw [he1, hj1] at hc1
            have q1 : (j : Int) + 1 = (j1 : Int) := by omega
            have q2 : (0 : Int) ≤ (j1 : Int) := by omega
            have q3 : (j1 : Int) < (k : Int) + 1 := by omega
            by_cases hle1 : e1 ≤ m
            · have q4 : (e1 : Int) ≤ mi := by rw [← HMI.out]; omega
              have HR := Lib.hid hr
              have HE1 := Lib.hid he1
              have HQ := Lib.hid hj1
              clear he1 hr
              go_wp2_with fail
              go_roundw
              case rel => exact ⟨j + 1, by omega, by go_num, by rw [HE1.out]; exact hle1, HR.out⟩
              case measure => simp [intOf]; omega
            · have q4 : ¬ ((e1 : Int) ≤ mi) := by rw [← HMI.out]; omega
              have h3 : j < k → m < eAt l (j + 1) := fun _ => by rw [he1]; omega
              clear he1
              have HB9 := Lib.hid (ho.trans (hr.mono HOS.out))
              obtain ⟨ev, hev⟩ : ∃ e, eAt l j = e := ⟨_, rfl⟩
              have hca : ∀ W, Below wo.heap.size wo W → W.cell? ⟨g, j, none⟩ = some (.int .i64 (ev : Int)) := fun W h => by rw [HCC.out W h j hj, hev]
              have HCA := Lib.hid hca
              have HR := Lib.hid hr
              have HTK := Lib.hid (fun W (h : Below w.heap.size w W) => comes_take (HL.out.later h) j hj)
              have HCT := Lib.hid (HCT0.out j hj hej h3)
              rw [hev] at HCT
              by_cases hme : m = ev
              · rw [if_pos hme] at HCT
                have hmb : ((ev : Int) == mi) = true := by rw [← HMI.out]; simp; omega
                clear hev hca hr hej hme h3
                go_wp2_with fail
                refine (HCT.out _).mono ?_
                rintro e w3 ⟨A3, c3, rfl, hc3, hb3⟩
                have HR3 := Lib.hid (HR.out.trans (hb3.mono HR.out.size))
                have HB3 := Lib.hid (later HB9.out hb3)
                have HC3 := Lib.hid hc3
                clear hb3 hc3
                go_wp2_with fail
                refine (texts_any A3 j c3 (l.take j) A j c (l.take j) w3 HC3.out (HTK.out _ HB3.out)).mono ?_
                rw [decide_eq_true (rfl : l.take j = l.take j)]
                rintro e w4 ⟨rfl, hb4⟩
                have hcj4 := HCA.out w4 (HR3.out.trans (hb4.mono HR3.out.size))
                have i1 : (j : Int) < (k : Int) + 1 := by omega
                have HB4 := Lib.hid (later HB3.out hb4)
                clear hb4
                go_wp2
                go_ret
                exact ⟨rfl, HB4.out⟩
              · rw [if_neg hme] at HCT
                have hmb : ((ev : Int) == mi) = false := by rw [← HMI.out]; simp; omega
                clear hev hca hr hej hme h3
                go_wp2_with fail
                refine (HCT.out _).mono ?_
                rintro e w3 ⟨A3, c3, rfl, hc3, hb3⟩
                have HR3 := Lib.hid (HR.out.trans (hb3.mono HR.out.size))
                have HB3 := Lib.hid (later HB9.out hb3)
                have HC3 := Lib.hid hc3
                clear hb3 hc3
                go_wp2_with fail
                refine (texts_any A3 j c3 (l.take j) A j c (l.take j) w3 HC3.out (HTK.out _ HB3.out)).mono ?_
                rw [decide_eq_true (rfl : l.take j = l.take j)]
                rintro e w4 ⟨rfl, hb4⟩
                have hcj4 := HCA.out w4 (HR3.out.trans (hb4.mono HR3.out.size))
                have i1 : (j : Int) < (k : Int) + 1 := by omega
                have HB4 := Lib.hid (later HB3.out hb4)
                clear hb4
                go_wp2
                go_ret
                exact ⟨rfl, HB4.out⟩
          · obtain rfl : j = k := by omega
            have h3 : j < j → m < eAt l (j + 1) := fun h => by omega
            have HB9 := Lib.hid (ho.trans (hr.mono HOS.out))
            obtain ⟨ev, hev⟩ : ∃ e, eAt l j = e := ⟨_, rfl⟩
            have hca : ∀ W, Below wo.heap.size wo W → W.cell? ⟨g, j, none⟩ = some (.int .i64 (ev : Int)) := fun W h => by rw [HCC.out W h j hj, hev]
            have HCA := Lib.hid hca
            have HR := Lib.hid hr
            have HTK := Lib.hid (fun W (h : Below w.heap.size w W) => comes_take (HL.out.later h) j hj)
            have HCT := Lib.hid (HCT0.out j hj hej h3)
            rw [hev] at HCT
            by_cases hme : m = ev
            · rw [if_pos hme] at HCT
              have hmb : ((ev : Int) == mi) = true := by rw [← HMI.out]; simp; omega
              clear hev hca hr hej hme h3
              go_wp2_with fail
              refine (HCT.out _).mono ?_
              rintro e w3 ⟨A3, c3, rfl, hc3, hb3⟩
              have HR3 := Lib.hid (HR.out.trans (hb3.mono HR.out.size))
              have HB3 := Lib.hid (later HB9.out hb3)
              have HC3 := Lib.hid hc3
              clear hb3 hc3
              go_wp2_with fail
              refine (texts_any A3 j c3 (l.take j) A j c (l.take j) w3 HC3.out (HTK.out _ HB3.out)).mono ?_
              rw [decide_eq_true (rfl : l.take j = l.take j)]
              rintro e w4 ⟨rfl, hb4⟩
              have hcj4 := HCA.out w4 (HR3.out.trans (hb4.mono HR3.out.size))
              have i1 : (j : Int) < (j : Int) + 1 := by omega
              have HB4 := Lib.hid (later HB3.out hb4)
              clear hb4
              go_wp2
              go_ret
              exact ⟨rfl, HB4.out⟩
            · rw [if_neg hme] at HCT
              have hmb : ((ev : Int) == mi) = false := by rw [← HMI.out]; simp; omega
              clear hev hca hr hej hme h3
              go_wp2_with fail
              refine (HCT.out _).mono ?_
              rintro e w3 ⟨A3, c3, rfl, hc3, hb3⟩
              have HR3 := Lib.hid (HR.out.trans (hb3.mono HR.out.size))
              have HB3 := Lib.hid (later HB9.out hb3)
              have HC3 := Lib.hid hc3
              clear hb3 hc3
              go_wp2_with fail
              refine (texts_any A3 j c3 (l.take j) A j c (l.take j) w3 HC3.out (HTK.out _ HB3.out)).mono ?_
              rw [decide_eq_true (rfl : l.take j = l.take j)]
              rintro e w4 ⟨rfl, hb4⟩
              have hcj4 := HCA.out w4 (HR3.out.trans (hb4.mono HR3.out.size))
              have i1 : (j : Int) < (j : Int) + 1 := by omega
              have HB4 := Lib.hid (later HB3.out hb4)
              clear hb4
              go_wp2
              go_ret
              exact ⟨rfl, HB4.out⟩
      · subst hmi0
        go_wp2_with fail
        go_loopw [9] (fun v9 wq => ∃ j : Nat, j ≤ k ∧ v9 = .int .i64 j ∧ eAt l j ≤ m ∧ Below wo.heap.size wo wq) (fun v9 _ => k - (intOf v9).toNat)
        case atStart => exact ⟨0, Nat.zero_le _, rfl, by rw [HE0.out]; omega, Below.refl _ _⟩
        case round =>
          obtain ⟨j, hj, rfl, hej, hr⟩ := hrel
          have i0 : (0 : Int) ≤ (j : Int) := by omega
          by_cases hjk : j < k
          · obtain ⟨e1, he1⟩ : ∃ e, eAt l (j + 1) = e := ⟨_, rfl⟩
            obtain ⟨j1, hj1⟩ : ∃ q, j + 1 = q := ⟨_, rfl⟩
            have hc1 := HCC.out _ hr (j + 1) (by omega)
            rw [he1, hj1] at hc1
            have q1 : (j : Int) + 1 = (j1 : Int) := by omega
            have q2 : (0 : Int) ≤ (j1 : Int) := by omega
            have q3 : (j1 : Int) < (k : Int) + 1 := by omega
            by_cases hle1 : e1 ≤ m
            · have q4 : (e1 : Int) ≤ (fn : Int) := by rw [← HMI.out]; omega
              have HR := Lib.hid hr
              have HE1 := Lib.hid he1
              have HQ := Lib.hid hj1
              clear he1 hr
              go_wp2_with fail
              go_roundw
              case rel => exact ⟨j + 1, by omega, by go_num, by rw [HE1.out]; exact hle1, HR.out⟩
              case measure => simp [intOf]; omega
            · have q4 : ¬ ((e1 : Int) ≤ (fn : Int)) := by rw [← HMI.out]; omega
              have h3 : j < k → m < eAt l (j + 1) := fun _ => by rw [he1]; omega
              clear he1
              have HB9 := Lib.hid (ho.trans (hr.mono HOS.out))
              obtain ⟨ev, hev⟩ : ∃ e, eAt l j = e := ⟨_, rfl⟩
              have hca : ∀ W, Below wo.heap.size wo W → W.cell? ⟨g, j, none⟩ = some (.int .i64 (ev : Int)) := fun W h => by rw [HCC.out W h j hj, hev]
              have HCA := Lib.hid hca
              have HR := Lib.hid hr
              have HTK := Lib.hid (fun W (h : Below w.heap.size w W) => comes_take (HL.out.later h) j hj)
              have HCT := Lib.hid (HCT0.out j hj hej h3)
              rw [hev] at HCT
              by_cases hme : m = ev
              · rw [if_pos hme] at HCT
                have hmb : ((ev : Int) == (fn : Int)) = true := by rw [← HMI.out]; simp; omega
                clear hev hca hr hej hme h3
                go_wp2_with fail
                refine (HCT.out _).mono ?_
                rintro e w3 ⟨A3, c3, rfl, hc3, hb3⟩
                have HR3 := Lib.hid (HR.out.trans (hb3.mono HR.out.size))
                have HB3 := Lib.hid (later HB9.out hb3)
                have HC3 := Lib.hid hc3
                clear hb3 hc3
                go_wp2_with fail
                refine (texts_any A3 j c3 (l.take j) A j c (l.take j) w3 HC3.out (HTK.out _ HB3.out)).mono ?_
                rw [decide_eq_true (rfl : l.take j = l.take j)]
                rintro e w4 ⟨rfl, hb4⟩
                have hcj4 := HCA.out w4 (HR3.out.trans (hb4.mono HR3.out.size))
                have i1 : (j : Int) < (k : Int) + 1 := by omega
                have HB4 := Lib.hid (later HB3.out hb4)
                clear hb4
                go_wp2
                go_ret
                exact ⟨rfl, HB4.out⟩
              · rw [if_neg hme] at HCT
                have hmb : ((ev : Int) == (fn : Int)) = false := by rw [← HMI.out]; simp; omega
                clear hev hca hr hej hme h3
                go_wp2_with fail
                refine (HCT.out _).mono ?_
                rintro e w3 ⟨A3, c3, rfl, hc3, hb3⟩
                have HR3 := Lib.hid (HR.out.trans (hb3.mono HR.out.size))
                have HB3 := Lib.hid (later HB9.out hb3)
                have HC3 := Lib.hid hc3
                clear hb3 hc3
                go_wp2_with fail
                refine (texts_any A3 j c3 (l.take j) A j c (l.take j) w3 HC3.out (HTK.out _ HB3.out)).mono ?_
                rw [decide_eq_true (rfl : l.take j = l.take j)]
                rintro e w4 ⟨rfl, hb4⟩
                have hcj4 := HCA.out w4 (HR3.out.trans (hb4.mono HR3.out.size))
                have i1 : (j : Int) < (k : Int) + 1 := by omega
                have HB4 := Lib.hid (later HB3.out hb4)
                clear hb4
                go_wp2
                go_ret
                exact ⟨rfl, HB4.out⟩
          · obtain rfl : j = k := by omega
            have h3 : j < j → m < eAt l (j + 1) := fun h => by omega
            have HB9 := Lib.hid (ho.trans (hr.mono HOS.out))
            obtain ⟨ev, hev⟩ : ∃ e, eAt l j = e := ⟨_, rfl⟩
            have hca : ∀ W, Below wo.heap.size wo W → W.cell? ⟨g, j, none⟩ = some (.int .i64 (ev : Int)) := fun W h => by rw [HCC.out W h j hj, hev]
            have HCA := Lib.hid hca
            have HR := Lib.hid hr
            have HTK := Lib.hid (fun W (h : Below w.heap.size w W) => comes_take (HL.out.later h) j hj)
            have HCT := Lib.hid (HCT0.out j hj hej h3)
            rw [hev] at HCT
            by_cases hme : m = ev
            · rw [if_pos hme] at HCT
              have hmb : ((ev : Int) == (fn : Int)) = true := by rw [← HMI.out]; simp; omega
              clear hev hca hr hej hme h3
              go_wp2_with fail
              refine (HCT.out _).mono ?_
              rintro e w3 ⟨A3, c3, rfl, hc3, hb3⟩
              have HR3 := Lib.hid (HR.out.trans (hb3.mono HR.out.size))
              have HB3 := Lib.hid (later HB9.out hb3)
              have HC3 := Lib.hid hc3
              clear hb3 hc3
              go_wp2_with fail
              refine (texts_any A3 j c3 (l.take j) A j c (l.take j) w3 HC3.out (HTK.out _ HB3.out)).mono ?_
              rw [decide_eq_true (rfl : l.take j = l.take j)]
              rintro e w4 ⟨rfl, hb4⟩
              have hcj4 := HCA.out w4 (HR3.out.trans (hb4.mono HR3.out.size))
              have i1 : (j : Int) < (j : Int) + 1 := by omega
              have HB4 := Lib.hid (later HB3.out hb4)
              clear hb4
              go_wp2
              go_ret
              exact ⟨rfl, HB4.out⟩
            · rw [if_neg hme] at HCT
              have hmb : ((ev : Int) == (fn : Int)) = false := by rw [← HMI.out]; simp; omega
              clear hev hca hr hej hme h3
              go_wp2_with fail
              refine (HCT.out _).mono ?_
              rintro e w3 ⟨A3, c3, rfl, hc3, hb3⟩
              have HR3 := Lib.hid (HR.out.trans (hb3.mono HR.out.size))
              have HB3 := Lib.hid (later HB9.out hb3)
              have HC3 := Lib.hid hc3
              clear hb3 hc3
              go_wp2_with fail
              refine (texts_any A3 j c3 (l.take j) A j c (l.take j) w3 HC3.out (HTK.out _ HB3.out)).mono ?_
              rw [decide_eq_true (rfl : l.take j = l.take j)]
              rintro e w4 ⟨rfl, hb4⟩
              have hcj4 := HCA.out w4 (HR3.out.trans (hb4.mono HR3.out.size))
              have i1 : (j : Int) < (j : Int) + 1 := by omega
              have HB4 := Lib.hid (later HB3.out hb4)
              clear hb4
              go_wp2
              go_ret
              exact ⟨rfl, HB4.out⟩
end Go.Proofs.Ytmaehbcjcifchaa.FrW
