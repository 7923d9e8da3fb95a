/-
  FrameTurned: THE WALK.
-/
import Derived.Test.YtmaehbcjcifchaaFrLawT
namespace Go.Proofs.Ytmaehbcjcifchaa.FrW
set_option linter.unusedVariables false
open Go.RowKit CrcM CrcW FrM
set_option maxRecDepth 20000 in
set_option maxHeartbeats 4000000 in
theorem frameTurned_all (b : List UInt8) (at_ : Int) (x : UInt8) (r : List UInt8) (w : World) (hb : b.length ≤ 140737488355328) (hr : r.length ≤ 9223372036854775807) (hat : -9223372036854775808 ≤ at_ ∧ at_ ≤ 9223372036854775807) :
    Calls Try.prog 6 #[.string (bs b), .int .i64 at_, .int .u8 (x.toNat : Int), .string (bs r)] w fun e w' => e = .returned (.bool true) ∧ Below w.heap.size w w' := by
  have hzb := bs_size b
  have hzr := bs_size r
  have HP := Lib.hid (fun W => put_great b W hb)
  have hzp := bs_size (frm b)
  rw [frm_len] at hzp
  have hk1 : (small b.length).length ≤ 10 := sm_len 9 b.length
  have hk0 : 1 ≤ (small b.length).length := sm_pos 9 b.length
  by_cases hex : 400 < b.length ∨ 400 < r.length ∨ at_ < ((small b.length).length : Int) ∨ (((small b.length).length + b.length + 4 : Nat) : Int) ≤ at_ ∨ x = 0
  · obtain ⟨X, hX⟩ : ∃ X, bs b = X := ⟨_, rfl⟩
    obtain ⟨Y, hY⟩ : ∃ Y, bs r = Y := ⟨_, rfl⟩
    obtain ⟨P, hP⟩ : ∃ P, bs (frm b) = P := ⟨_, rfl⟩
    rw [hX] at hzb HP ⊢
    rw [hY] at hzr ⊢
    rw [hP] at HP hzp
    obtain ⟨k, hk⟩ : ∃ k, (small b.length).length = k := ⟨_, rfl⟩
    rw [hk] at hzp hk0 hk1 hex
    obtain ⟨n, hn⟩ : ∃ n, b.length = n := ⟨_, rfl⟩
    rw [hn] at hzb hzp hex hb
    obtain ⟨rn, hrn⟩ : ∃ n, r.length = n := ⟨_, rfl⟩
    rw [hrn] at hzr hex hr
    have hx0 : x = 0 → ((x.toNat : Int) == 0) = true := by rintro rfl; rfl
    have hcase : 400 < n ∨ (¬ 400 < n ∧ 400 < rn) ∨ (¬ 400 < n ∧ ¬ 400 < rn ∧ at_ < (k : Int)) ∨ (¬ 400 < n ∧ ¬ 400 < rn ∧ ¬ at_ < (k : Int) ∧ ((k : Int) + n + 4 ≤ at_)) ∨
        (¬ 400 < n ∧ ¬ 400 < rn ∧ ¬ at_ < (k : Int) ∧ ¬ ((k : Int) + n + 4 ≤ at_) ∧ ((x.toNat : Int) == 0) = true) := by
      rcases hex with h | h | h | h | h
      · exact .inl h
      · by_cases h1 : 400 < n
        · exact .inl h1
        · exact .inr (.inl ⟨h1, h⟩)
      · by_cases h1 : 400 < n
        · exact .inl h1
        by_cases h2 : 400 < rn
        · exact .inr (.inl ⟨h1, h2⟩)
        · exact .inr (.inr (.inl ⟨h1, h2, h⟩))
      · by_cases h1 : 400 < n
        · exact .inl h1
        by_cases h2 : 400 < rn
        · exact .inr (.inl ⟨h1, h2⟩)
        by_cases h3 : at_ < (k : Int)
        · exact .inr (.inr (.inl ⟨h1, h2, h3⟩))
        · exact .inr (.inr (.inr (.inl ⟨h1, h2, h3, by omega⟩)))
      · by_cases h1 : 400 < n
        · exact .inl h1
        by_cases h2 : 400 < rn
        · exact .inr (.inl ⟨h1, h2⟩)
        by_cases h3 : at_ < (k : Int)
        · exact .inr (.inr (.inl ⟨h1, h2, h3⟩))
        by_cases h4 : (k : Int) + n + 4 ≤ at_
        · exact .inr (.inr (.inr (.inl ⟨h1, h2, h3, h4⟩)))
        · exact .inr (.inr (.inr (.inr ⟨h1, h2, h3, h4, hx0 h⟩)))
    clear hX hY hP hk hn hrn hex hx0
    obtain ⟨xv, hxv⟩ : ∃ xv : Int, (x.toNat : Int) = xv := ⟨_, rfl⟩
    rw [hxv] at hcase ⊢
    clear hxv
    rcases hcase with h1 | ⟨h1, h2⟩ | ⟨h1, h2, h3⟩ | ⟨h1, h2, h3, h4⟩ | ⟨h1, h2, h3, h4, h5⟩
    all_goals
      go_enter Try.func6, Try.ntmps6
      go_wp2_with fail
      refine (works_any _).mono ?_
      rintro e w1 ⟨rfl, hb1⟩
      go_wp2_with fail
      refine (HP.out _).mono ?_
      rintro e w2 ⟨rfl, hb2⟩
      go_wp2
      go_ret
      exact ⟨rfl, later hb1 hb2⟩
  · have hn4 : b.length ≤ 400 := by omega
    have hr4 : r.length ≤ 400 := by omega
    have hx0 : x ≠ 0 := fun h => hex (.inr (.inr (.inr (.inr h))))
    obtain ⟨m, rfl⟩ : ∃ m : Nat, at_ = (m : Int) := ⟨at_.toNat, by omega⟩
    have hm1 : (small b.length).length ≤ m := by omega
    have hm2 : m < (frm b).length := by rw [frm_len]; omega
    have hfl := frm_len b
    have hal : (frm b ++ r).length = (frm b).length + r.length := List.length_append
    have hmL : m < (frm b ++ r).length := by omega
    have hAP : bs (frm b) ++ bs r = bs (frm b ++ r) := bs_append _ _
    have hsetA : ∀ y, (frm b ++ r)[m]? ≠ some y → (getF ((frm b ++ r).set m y) 400).2.2 = 2 := fun y hy => getF_set b r m y 400 (by omega) (by omega) hm1 hm2 hy
    have hLl : (frm b ++ r).length ≤ 1000 := by omega
    generalize frm b ++ r = L at *
    obtain ⟨y0, hy0⟩ : ∃ y, L[m] = y := ⟨_, rfl⟩
    have hset := hsetA (y0 ^^^ x) (by
      rw [List.getElem?_eq_getElem hmL, hy0]; intro h; injection h with h; exact xor_ne y0 x hx0 h.symm)
    have HG : Hid (∀ W, Calls Try.prog 14 #[.string (bs (L.set m (y0 ^^^ x))), .int .i64 400] W fun e w' => (∃ u v, e = .returned (.tuple #[.string u, .string v, .int .i64 2])) ∧ Below W.heap.size W w') := Lib.hid (fun W => by
      refine (get_tup (L.set m (y0 ^^^ x)) 400 W (by rw [List.length_set]; omega) (by omega)).mono ?_
      rintro e w' ⟨rfl, h⟩
      rw [hset]
      exact ⟨⟨_, _, rfl⟩, h⟩)
    have hxx := xor_bytes y0 x
    have HBW := Lib.hid (fun W => bytes_world W L)
    have HBK := Lib.hid (fun W g c => bytes_back W g c m L (y0 ^^^ x) hmL)
    have HC0 : Hid (∀ (W : World) (g : Nat), (∀ j (hj : j < L.length), W.cell? ⟨g, j, none⟩ = some (.int .u8 (L[j].toNat : Int))) → W.cell? ⟨g, m, none⟩ = some (.int .u8 (y0.toNat : Int))) := Lib.hid (fun W g h => by rw [h m hmL, hy0])
    have hAPs : (bs (frm b) ++ bs r).size = L.length := by rw [hAP, bs_size]
    rw [← hAP] at HBW
    obtain ⟨X, hX⟩ : ∃ X, bs b = X := ⟨_, rfl⟩
    obtain ⟨Y, hY⟩ : ∃ Y, bs r = Y := ⟨_, rfl⟩
    obtain ⟨P, hP⟩ : ∃ P, bs (frm b) = P := ⟨_, rfl⟩
    obtain ⟨Q, hQ⟩ : ∃ Q, bs (L.set m (y0 ^^^ x)) = Q := ⟨_, rfl⟩
    rw [hX] at hzb HP ⊢
    rw [hY] at hzr HBW hAPs ⊢
    rw [hP] at HP hzp HBW hAPs
    rw [hQ] at HG HBK
    clear hset hsetA hX hY hP hQ hAP
    obtain ⟨k, hk⟩ : ∃ k, (small b.length).length = k := ⟨_, rfl⟩
    rw [hk] at hzp hk0 hk1 hm1 hfl
    obtain ⟨n, hn⟩ : ∃ n, b.length = n := ⟨_, rfl⟩
    rw [hn] at hzb hzp hb hn4 hfl
    obtain ⟨rn, hrn⟩ : ∃ n, r.length = n := ⟨_, rfl⟩
    rw [hrn] at hzr hr hr4 hal
    obtain ⟨N, hN⟩ : ∃ n, L.length = n := ⟨_, rfl⟩
    have hmN : m < N := by omega
    have HFR : Hid (∀ (W : World) (g : Nat), (∀ j, j < L.length → W.frozen? ⟨g, j, none⟩ = false) → W.frozen? ⟨g, m, none⟩ = false) := Lib.hid (fun W g h => h m hmL)
    rw [hN] at hal hLl hAPs
    have i0 : (0 : Int) ≤ (m : Int) := by omega
    have i1 : (m : Int) < (N : Int) := by omega
    have i2 : ¬ ((m : Int) < (k : Int)) := by omega
    have i3 : ¬ ((k : Int) + n + 4 ≤ (m : Int)) := by omega
    have hx1 : ((x.toNat : Int) == 0) = false := by
      have : x.toNat ≠ 0 := fun h => hx0 (UInt8.toNat_inj.1 h)
      simp; omega
    obtain ⟨xv, hxv⟩ : ∃ xv : Int, (x.toNat : Int) = xv := ⟨_, rfl⟩
    obtain ⟨yv, hyv⟩ : ∃ xv : Int, (y0.toNat : Int) = xv := ⟨_, rfl⟩
    obtain ⟨zv, hzv⟩ : ∃ xv : Int, ((y0 ^^^ x).toNat : Int) = xv := ⟨_, rfl⟩
    rw [hxv] at hxx hx1 ⊢
    rw [hyv] at hxx HC0
    rw [hzv] at hxx HBK
    clear hk hn hrn hx0 hxv hyv hzv hy0 hex hmL hal hfl hAPs hm2
    go_enter Try.func6, Try.ntmps6
    go_wp2_with fail
    refine (works_any _).mono ?_
    rintro e w1 ⟨rfl, hb1⟩
    go_wp2_with fail
    refine (HP.out _).mono ?_
    rintro e w2 ⟨rfl, hb2⟩
    obtain ⟨W3, c, hconv, hbel, hsz3, hcells, hfroz⟩ := HBW.out w2
    have hcm := HC0.out W3 _ hcells
    have hfm := HFR.out W3 _ hfroz
    have hback := HBK.out W3 w2.heap.size c hcells
    rw [hN] at hconv hback
    have HB3 := Lib.hid (later (later hb1 hb2) hbel)
    have HZ3 := Lib.hid hsz3
    have HL9 := Lib.hid hN
    have HSZ := Lib.hid (show w.heap.size ≤ w2.heap.size from (later hb1 hb2).size)
    clear hb1 hb2 hbel hcells hfroz hsz3 hN
    go_wp2_with fail
    refine (HG.out _).mono ?_
    rintro e w4 ⟨⟨u, v, rfl⟩, hb4⟩
    have HB4 := Lib.hid (later (show Below w.heap.size w (W3.setCell ⟨w2.heap.size, m, none⟩ (.int .u8 zv)) from HB3.out.setCell (p := ⟨w2.heap.size, m, none⟩) HSZ.out _) hb4)
    clear hb4
    go_wp2
    go_ret
    exact ⟨rfl, HB4.out⟩
end Go.Proofs.Ytmaehbcjcifchaa.FrW
