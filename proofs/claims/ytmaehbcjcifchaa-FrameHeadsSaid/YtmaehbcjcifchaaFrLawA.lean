/-
  FrameSizes, FrameBack: THE WALKS.
-/
import Derived.Test.YtmaehbcjcifchaaFrWorks
namespace Go.Proofs.Ytmaehbcjcifchaa.FrW
set_option linter.unusedVariables false
open Go.RowKit CrcM CrcW FrM
theorem small_len1 (n : Nat) (h : n < 128) : (small n).length = 1 := by unfold small; rw [sm_last h]; rfl
theorem small_len2 (n : Nat) (h : ¬ n < 128) (h2 : n < 16384) : (small n).length = 2 := by
  unfold small; rw [sm_more h, List.length_cons, sm_last (show n / 128 < 128 by omega)]; rfl
set_option maxRecDepth 20000 in
set_option maxHeartbeats 4000000 in
theorem frameSizes_all (b m : List UInt8) (g f : Int) (w : World) (hb : b.length ≤ 9223372036854775807) (hm : m.length ≤ 9223372036854775807) :
    Calls Try.prog 7 #[.string (bs b), .string (bs m), .int .i64 g, .int .i64 f] w fun e w' => e = .returned (.bool true) ∧ Below w.heap.size w w' := by
  have hzb := bs_size b
  have hzm := bs_size m
  by_cases hbig : 400 < b.length ∨ 400 < m.length
  · obtain ⟨X, hX⟩ : ∃ X, bs b = X := ⟨_, rfl⟩
    obtain ⟨Y, hY⟩ : ∃ Y, bs m = Y := ⟨_, rfl⟩
    rw [hX] at hzb ⊢
    rw [hY] at hzm ⊢
    clear hX hY
    by_cases h1 : 400 < b.length
    · go_enter Try.func7, Try.ntmps7
      go_wp2_with fail
      refine (works_any _).mono ?_
      rintro e w1 ⟨rfl, hb1⟩
      go_wp2
      go_ret
      exact ⟨rfl, hb1⟩
    · have h2 : 400 < m.length := by omega
      go_enter Try.func7, Try.ntmps7
      go_wp2_with fail
      refine (works_any _).mono ?_
      rintro e w1 ⟨rfl, hb1⟩
      go_wp2
      go_ret
      exact ⟨rfl, hb1⟩
  have hb4 : b.length ≤ 400 := by omega
  have hm4 : m.length ≤ 400 := by omega
  have HP := Lib.hid (fun W => put_any b W (by omega))
  have HH := Lib.hid (fun W => head_any m g f W (by omega))
  have hzp := bs_size (frm b)
  have hzh := bs_size (hd m g f ++ ctail (hd m g f))
  rw [head_len] at hzh
  rw [frm_len] at hzp
  have hs1 := small_len1 b.length
  have hs2 := fun h => small_len2 b.length h (by omega)
  obtain ⟨X, hX⟩ : ∃ X, bs b = X := ⟨_, rfl⟩
  obtain ⟨Y, hY⟩ : ∃ Y, bs m = Y := ⟨_, rfl⟩
  obtain ⟨P, hP⟩ : ∃ P, bs (frm b) = P := ⟨_, rfl⟩
  obtain ⟨H, hH⟩ : ∃ H, bs (hd m g f ++ ctail (hd m g f)) = H := ⟨_, rfl⟩
  rw [hX] at hzb HP ⊢
  rw [hY] at hzm HH ⊢
  rw [hP] at HP hzp
  rw [hH] at HH hzh
  obtain ⟨k, hk⟩ : ∃ k, (small b.length).length = k := ⟨_, rfl⟩
  rw [hk] at hzp hs1 hs2
  clear hX hY hP hH hk hbig
  obtain ⟨n, hn⟩ : ∃ n, b.length = n := ⟨_, rfl⟩
  rw [hn] at hzb hzp hs1 hs2 hb4 hb
  clear hn
  by_cases h128 : n < 128
  · obtain rfl : k = 1 := hs1 h128
    have hzp2 : P.size = n + 5 := by omega
    clear hzp hs1 hs2
    go_enter Try.func7, Try.ntmps7
    go_wp2_with fail
    refine (works_any _).mono ?_
    rintro e w1 ⟨rfl, hb1⟩
    go_wp2_with fail
    refine (HP.out _).mono ?_
    rintro e w2 ⟨rfl, hb2⟩
    go_wp2_with fail
    refine (HH.out _).mono ?_
    rintro e w3 ⟨rfl, hb3⟩
    go_wp2
    go_ret
    exact ⟨rfl, later (later hb1 hb2) hb3⟩
  · obtain rfl : k = 2 := hs2 h128
    have hzp2 : P.size = n + 6 := by omega
    clear hzp hs1 hs2
    go_enter Try.func7, Try.ntmps7
    go_wp2_with fail
    refine (works_any _).mono ?_
    rintro e w1 ⟨rfl, hb1⟩
    go_wp2_with fail
    refine (HP.out _).mono ?_
    rintro e w2 ⟨rfl, hb2⟩
    go_wp2_with fail
    refine (HH.out _).mono ?_
    rintro e w3 ⟨rfl, hb3⟩
    go_wp2
    go_ret
    exact ⟨rfl, later (later hb1 hb2) hb3⟩
set_option maxRecDepth 20000 in
set_option maxHeartbeats 4000000 in
theorem frameBack_all (b r s : List UInt8) (most : Int) (w : World) (hb : b.length ≤ 9223372036854775807) (hr : r.length ≤ 9223372036854775807) (hs : s.length ≤ 9223372036854775807) (hm : most ≤ 9223372036854775807) :
    Calls Try.prog 4 #[.string (bs b), .string (bs r), .string (bs s), .int .i64 most] w fun e w' => e = .returned (.bool true) ∧ Below w.heap.size w w' := by
  have hzb := bs_size b
  have hzr := bs_size r
  have hzs := bs_size s
  by_cases hbig : 400 < b.length ∨ 400 < r.length ∨ 400 < s.length
  · obtain ⟨X, hX⟩ : ∃ X, bs b = X := ⟨_, rfl⟩
    obtain ⟨Y, hY⟩ : ∃ Y, bs r = Y := ⟨_, rfl⟩
    obtain ⟨Z, hZ⟩ : ∃ Z, bs s = Z := ⟨_, rfl⟩
    rw [hX] at hzb ⊢
    rw [hY] at hzr ⊢
    rw [hZ] at hzs ⊢
    clear hX hY hZ
    by_cases h1 : 400 < b.length
    · go_enter Try.func4, Try.ntmps4
      go_wp2_with fail
      refine (works_any _).mono ?_
      rintro e w1 ⟨rfl, hb1⟩
      go_wp2
      go_ret
      exact ⟨rfl, hb1⟩
    by_cases h2 : 400 < r.length
    · go_enter Try.func4, Try.ntmps4
      go_wp2_with fail
      refine (works_any _).mono ?_
      rintro e w1 ⟨rfl, hb1⟩
      go_wp2
      go_ret
      exact ⟨rfl, hb1⟩
    · have h3 : 400 < s.length := by omega
      go_enter Try.func4, Try.ntmps4
      go_wp2_with fail
      refine (works_any _).mono ?_
      rintro e w1 ⟨rfl, hb1⟩
      go_wp2
      go_ret
      exact ⟨rfl, hb1⟩
  have hb4 : b.length ≤ 400 := by omega
  have hr4 : r.length ≤ 400 := by omega
  have hs4 : s.length ≤ 400 := by omega
  have hfl : (frm b).length ≤ 414 := by rw [frm_len]; have := sm_len 9 b.length; show (sm 9 b.length).length + _ + 4 ≤ _; omega
  have HP := Lib.hid (fun W => put_any b W (by omega))
  have HA : Hid (bs (frm b) ++ bs r = bs (frm b ++ r)) := Lib.hid (bs_append _ _)
  have HG1 : Hid (∀ W, Calls Try.prog 14 #[.string (bs (frm b ++ r)), .int .i64 (b.length : Int)] W fun e w' => e = .returned (.tuple #[.string (bs b), .string (bs r), .int .i64 0]) ∧ Below W.heap.size W w') := Lib.hid (fun W => by
    have h := get_tup (frm b ++ r) (b.length : Int) W (by rw [List.length_append]; omega) (by omega)
    rw [getF_put b r _ (by omega) (Int.le_refl _)] at h
    exact h)
  have HG2 : Hid (∀ W, Calls Try.prog 14 #[.string (bs (frm b ++ r)), .int .i64 ((b.length : Int) - 1)] W fun e w' => e = .returned (.tuple #[.string ⟨#[]⟩, .string (bs (frm b ++ r)), .int .i64 2]) ∧ Below W.heap.size W w') := Lib.hid (fun W => by
    have h := get_tup (frm b ++ r) ((b.length : Int) - 1) W (by rw [List.length_append]; omega) (by omega)
    rw [getF_big b r _ (by omega) (by omega)] at h
    exact h)
  have HG3 := Lib.hid (fun W => get_tup s most W (by omega) hm)
  have hzp := bs_size (frm b)
  obtain ⟨X, hX⟩ : ∃ X, bs b = X := ⟨_, rfl⟩
  obtain ⟨Y, hY⟩ : ∃ Y, bs r = Y := ⟨_, rfl⟩
  obtain ⟨P, hP⟩ : ∃ P, bs (frm b) = P := ⟨_, rfl⟩
  obtain ⟨Q, hQ⟩ : ∃ Q, bs (frm b ++ r) = Q := ⟨_, rfl⟩
  rw [hX] at hzb HP HG1
  rw [hY] at hzr HG1 HA
  rw [hP] at HP hzp HA
  rw [hQ] at HG1 HG2 HA
  rw [hX, hY]
  clear hbig
  obtain ⟨n, hn⟩ : ∃ n, b.length = n := ⟨_, rfl⟩
  rw [hn] at hzb HG1 HG2 hb4 hb
  obtain ⟨n2, hn2⟩ : ∃ n, (frm b).length = n := ⟨_, rfl⟩
  rw [hn2] at hzp hfl
  clear hX hY hP hQ hn hn2
  by_cases h0 : (getF s most).2.2 = 0
  · have hg : getF s most = ((getF s most).1, (getF s most).2.1, 0) := by rw [← h0]
    obtain ⟨u1, u2⟩ := getF_only hg
    rw [h0] at HG3
    obtain ⟨u, hu⟩ : ∃ u, (getF s most).1 = u := ⟨_, rfl⟩
    obtain ⟨v, hv⟩ : ∃ v, (getF s most).2.1 = v := ⟨_, rfl⟩
    rw [hu, hv] at HG3 u1
    rw [hu] at u2
    clear hg hu hv h0
    subst u1
    have hul : (frm u).length = (small u.length).length + u.length + 4 := frm_len u
    have hsl := hs4
    rw [List.length_append] at hsl
    have HPU := Lib.hid (fun W => put_any u W (by omega))
    have HA2 : Hid (bs (frm u) ++ bs v = bs (frm u ++ v)) := Lib.hid (bs_append _ _)
    have hzu := bs_size u
    have hzv := bs_size v
    have hzpu := bs_size (frm u)
    obtain ⟨U, hU⟩ : ∃ U, bs u = U := ⟨_, rfl⟩
    obtain ⟨V, hV⟩ : ∃ V, bs v = V := ⟨_, rfl⟩
    obtain ⟨R, hR⟩ : ∃ R, bs (frm u) = R := ⟨_, rfl⟩
    obtain ⟨Z, hZ⟩ : ∃ Z, bs (frm u ++ v) = Z := ⟨_, rfl⟩
    rw [hU] at HG3 HPU hzu
    rw [hV] at HG3 HA2 hzv
    rw [hR] at HPU HA2 hzpu
    rw [hZ] at HG3 HA2 hzs ⊢
    obtain ⟨nu, hnu⟩ : ∃ n, u.length = n := ⟨_, rfl⟩
    obtain ⟨np, hnp⟩ : ∃ n, (frm u).length = n := ⟨_, rfl⟩
    obtain ⟨nz, hnz⟩ : ∃ n, (frm u ++ v).length = n := ⟨_, rfl⟩
    obtain ⟨nv, hnv⟩ : ∃ n, v.length = n := ⟨_, rfl⟩
    rw [hnu] at u2 hzu
    rw [hnp] at hzpu hsl
    rw [hnv] at hsl hzv
    rw [hnz] at hzs hs4 hs
    clear hU hV hR hZ hnu hnp hnz hul hnv
    go_enter Try.func4, Try.ntmps4
    go_wp2_with fail
    refine (works_any _).mono ?_
    rintro e w1 ⟨rfl, hb1⟩
    go_wp2_with fail
    refine (HP.out _).mono ?_
    rintro e w2 ⟨rfl, hb2⟩
    go_wp2_with fail
    rw [show P ++ Y = Q from HA.out]
    refine (HG1.out _).mono ?_
    rintro e w3 ⟨rfl, hb3⟩
    have HB3 := Lib.hid (later (later hb1 hb2) hb3)
    clear hb1 hb2 hb3
    go_wp2_with fail
    refine (HP.out _).mono ?_
    rintro e w4 ⟨rfl, hb4'⟩
    go_wp2_with fail
    rw [show P ++ Y = Q from HA.out]
    refine (HG2.out _).mono ?_
    rintro e w5 ⟨rfl, hb5⟩
    go_wp2_with fail
    refine (HG3.out _).mono ?_
    rintro e w6 ⟨rfl, hb6⟩
    have HB6 := Lib.hid (later (later (later HB3.out hb4') hb5) hb6)
    clear hb4' hb5 hb6 HB3
    go_wp2_with fail
    refine (HPU.out _).mono ?_
    rintro e w7 ⟨rfl, hb7⟩
    have HB7 := Lib.hid (later HB6.out hb7)
    have hrv : R ++ V = Z := HA2.out
    clear hb7 HB6
    go_wp2_with fail
    go_ret
    exact ⟨by simp, HB7.out⟩
  · obtain ⟨u1, u2⟩ := getF_not s most h0
    rw [u1, u2, bs_nil] at HG3
    obtain ⟨sh, hsh⟩ : ∃ sh, (getF s most).2.2 = sh := ⟨_, rfl⟩
    rw [hsh] at HG3 h0
    have hshb : ((sh : Int) != 0) = true := by simp; omega
    have hshb2 : ((sh : Int) == 0) = false := by simp; omega
    obtain ⟨Z, hZ⟩ : ∃ Z, bs s = Z := ⟨_, rfl⟩
    rw [hZ] at HG3 hzs ⊢
    clear hZ u1 u2 hsh
    go_enter Try.func4, Try.ntmps4
    go_wp2_with fail
    refine (works_any _).mono ?_
    rintro e w1 ⟨rfl, hb1⟩
    go_wp2_with fail
    refine (HP.out _).mono ?_
    rintro e w2 ⟨rfl, hb2⟩
    go_wp2_with fail
    rw [show P ++ Y = Q from HA.out]
    refine (HG1.out _).mono ?_
    rintro e w3 ⟨rfl, hb3⟩
    have HB3 := Lib.hid (later (later hb1 hb2) hb3)
    clear hb1 hb2 hb3
    go_wp2_with fail
    refine (HP.out _).mono ?_
    rintro e w4 ⟨rfl, hb4'⟩
    go_wp2_with fail
    rw [show P ++ Y = Q from HA.out]
    refine (HG2.out _).mono ?_
    rintro e w5 ⟨rfl, hb5⟩
    go_wp2_with fail
    refine (HG3.out _).mono ?_
    rintro e w6 ⟨rfl, hb6⟩
    have HB6 := Lib.hid (later (later (later HB3.out hb4') hb5) hb6)
    clear hb4' hb5 hb6 HB3
    go_wp2
    go_ret
    exact ⟨rfl, HB6.out⟩
end Go.Proofs.Ytmaehbcjcifchaa.FrW
