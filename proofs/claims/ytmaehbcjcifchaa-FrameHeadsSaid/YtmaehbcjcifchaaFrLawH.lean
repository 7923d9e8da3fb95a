/-
  FrameHeads: THE WALK.
-/
import Derived.Test.YtmaehbcjcifchaaFrLawA
import Derived.Test.YtmaehbcjcifchaaFrHeadR
namespace Go.Proofs.Ytmaehbcjcifchaa.FrW
set_option linter.unusedVariables false
open Go.RowKit CrcM CrcW FrM
set_option maxRecDepth 20000 in
set_option maxHeartbeats 4000000 in
theorem frameHeads_all (m : List UInt8) (g f : Int) (s : List UInt8) (w : World) (hm : m.length ≤ 9223372036854775807) (hs : s.length ≤ 9223372036854775807) :
    Calls Try.prog 3 #[.string (bs m), .int .i64 g, .int .i64 f, .string (bs s)] w fun e w' => e = .returned (.bool true) ∧ Below w.heap.size w w' := by
  have hzs := bs_size s
  have hzm := bs_size m
  by_cases hbig : 400 < m.length ∨ 400 < s.length
  · obtain ⟨X, hX⟩ : ∃ X, bs m = X := ⟨_, rfl⟩
    obtain ⟨Y, hY⟩ : ∃ Y, bs s = Y := ⟨_, rfl⟩
    rw [hX] at hzm ⊢
    rw [hY] at hzs ⊢
    clear hX hY
    by_cases h1 : 400 < m.length
    · go_enter Try.func3, Try.ntmps3
      go_wp2_with fail
      refine (works_any _).mono ?_
      rintro e w1 ⟨rfl, hb1⟩
      go_wp2
      go_ret
      exact ⟨rfl, hb1⟩
    · have h2 : 400 < s.length := by omega
      go_enter Try.func3, Try.ntmps3
      go_wp2_with fail
      refine (works_any _).mono ?_
      rintro e w1 ⟨rfl, hb1⟩
      go_wp2
      go_ret
      exact ⟨rfl, hb1⟩
  have hm4 : m.length ≤ 400 := by omega
  have hs4 : s.length ≤ 400 := by omega
  have hl : (hd m g f ++ ctail (hd m g f)).length = m.length + 6 := head_len m g f
  have K1 := Lib.hid (fun W => open_any s m W (by omega) (by omega))
  have K2 := Lib.hid (fun W => ropen_any s m W (by omega) (by omega))
  have K3 := Lib.hid (fun W => head_any m g f W (by omega))
  have K4 := Lib.hid (fun W => rhead_any m g f W (by omega))
  have K5 := Lib.hid (fun W => open_any (hd m g f ++ ctail (hd m g f) ++ s) m W (by rw [List.length_append]; omega) (by omega))
  have K6 := Lib.hid (fun W => ropen_any (hd m g f ++ ctail (hd m g f) ++ s) m W (by rw [List.length_append]; omega) (by omega))
  have hzh := bs_size (hd m g f ++ ctail (hd m g f))
  rw [hl] at hzh
  have HA : Hid (bs (hd m g f ++ ctail (hd m g f)) ++ bs s = bs (hd m g f ++ ctail (hd m g f) ++ s)) := Lib.hid (bs_append _ _)
  obtain ⟨⟨a, b, c, d⟩, hO⟩ : ∃ T, openF s m = T := ⟨_, rfl⟩
  obtain ⟨⟨x, y, z, u⟩, hO2⟩ : ∃ T, openF (hd m g f ++ ctail (hd m g f) ++ s) m = T := ⟨_, rfl⟩
  rw [hO] at K1 K2
  rw [hO2] at K5 K6
  unfold openV at K1 K2 K5 K6
  obtain ⟨C, hC⟩ : ∃ X, bs c = X := ⟨_, rfl⟩
  obtain ⟨Z, hZ⟩ : ∃ X, bs z = X := ⟨_, rfl⟩
  obtain ⟨X, hX⟩ : ∃ X, bs m = X := ⟨_, rfl⟩
  obtain ⟨Y, hY⟩ : ∃ Y, bs s = Y := ⟨_, rfl⟩
  obtain ⟨H, hH⟩ : ∃ H, bs (hd m g f ++ ctail (hd m g f)) = H := ⟨_, rfl⟩
  obtain ⟨J, hJ⟩ : ∃ H, bs (hd m g f ++ ctail (hd m g f) ++ s) = H := ⟨_, rfl⟩
  simp only [] at K1 K2 K5 K6
  rw [hX, hY, hC] at K1 K2
  rw [hX, hH] at K3 K4
  rw [hX, hJ, hZ] at K5 K6
  rw [hH] at hzh
  rw [hH, hY, hJ] at HA
  rw [hX] at hzm ⊢
  rw [hY] at hzs ⊢
  obtain ⟨n, hn⟩ : ∃ n, m.length = n := ⟨_, rfl⟩
  obtain ⟨q, hq⟩ : ∃ n, s.length = n := ⟨_, rfl⟩
  rw [hn] at hzm hm4 hzh
  rw [hq] at hzs hs4
  have hadd : ∀ W : World, (Op.stringOp .add H Y).run Try.prog W = .ok (.string J) W := fun W => by
    rw [← HA.out]; exact run_string_add_sum W H Y (by omega)
  clear hbig hl hO hO2 hC hZ hX hY hH hJ hn hq hm hs HA
  go_enter Try.func3, Try.ntmps3
  go_wp2_with fail
  refine (works_any _).mono ?_
  rintro e w1 ⟨rfl, hb1⟩
  have HB := Lib.hid hb1
  clear hb1
  go_wp2_with fail
  refine (K1.out _).mono ?_
  rintro e w2 ⟨rfl, hb2⟩
  replace HB := Lib.hid (later HB.out hb2)
  clear hb2
  go_wp2_with fail
  refine (K2.out _).mono ?_
  rintro e w3 ⟨rfl, hb2⟩
  replace HB := Lib.hid (later HB.out hb2)
  clear hb2
  go_wp2_with fail
  refine (K3.out _).mono ?_
  rintro e w4 ⟨rfl, hb2⟩
  replace HB := Lib.hid (later HB.out hb2)
  clear hb2
  go_wp2_with fail
  refine (K5.out _).mono ?_
  rintro e w5 ⟨rfl, hb2⟩
  replace HB := Lib.hid (later HB.out hb2)
  clear hb2
  go_wp2_with fail
  refine (K4.out _).mono ?_
  rintro e w6 ⟨rfl, hb2⟩
  replace HB := Lib.hid (later HB.out hb2)
  clear hb2
  go_wp2_with fail
  refine (K6.out _).mono ?_
  rintro e w7 ⟨rfl, hb2⟩
  replace HB := Lib.hid (later HB.out hb2)
  clear hb2
  go_wp2_with fail
  refine (K3.out _).mono ?_
  rintro e w8 ⟨rfl, hb2⟩
  replace HB := Lib.hid (later HB.out hb2)
  clear hb2
  go_wp2_with fail
  refine (K4.out _).mono ?_
  rintro e w9 ⟨rfl, hb2⟩
  replace HB := Lib.hid (later HB.out hb2)
  clear hb2
  go_wp2_with fail
  go_ret
  exact ⟨rfl, HB.out⟩
end Go.Proofs.Ytmaehbcjcifchaa.FrW
