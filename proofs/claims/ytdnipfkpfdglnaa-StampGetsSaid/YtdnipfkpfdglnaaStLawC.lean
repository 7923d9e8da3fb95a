/-
  StampCosts: THE WALK.
-/
import Derived.Test.YtdnipfkpfdglnaaStLawB
namespace Go.Proofs.Ytdnipfkpfdglnaa.StW
open Go.RowKit Go.Shelf BitsM BitsW StM
set_option maxRecDepth 20000 in
set_option maxHeartbeats 4000000 in
theorem stampCosts_all (A : Option Addr) (n c : Nat) (l : List Int) (w : World) (hl : Comes w 1 encI okI A n c l) :
    Calls Try.prog 8 #[.slice A n c] w fun e w' => e = .returned (.bool true) ∧ Below w.heap.size w w' := by
  have HL := Lib.hid hl
  have hcap : c ≤ 9223372036854775807 := hl.cap
  have hle := hl.le
  clear hl
  go_enter Try.func8, Try.ntmps8
  go_wp2_with fail
  refine (works_any _).mono ?_
  rintro e w1 ⟨rfl, hb1⟩
  have HB1 := Lib.hid hb1
  clear hb1
  go_wp2_with fail
  refine (newWriter_any _).mono ?_
  rintro e w2 ⟨rfl, hw2, hb2, hz2⟩
  have HB2 := Lib.hid (And.intro (later HB1.out hb2) HB1.out.size)
  have HP2 : Hid (PM w2 (w2.alloc (StObj s0)) w1.heap.size none [] [(w2.heap.size, StObj s0)]) := Lib.hid ((PM.start hw2).alloc (StObj s0))
  clear hw2 hb2 hz2
  by_cases n60 : 60 < n
  · go_wp2_with fail
    go_ret
    exact ⟨rfl, HB2.out.1⟩
  go_wp2_with fail
  go_loopw [6, 7] (fun v6 v7 wr => ∃ k : Nat, k ≤ n ∧ v7 = .int .i64 k ∧ v6 = .int .i64 ((bitsAll s0 (l.take k)).length : Nat) ∧ PM w2 wr w1.heap.size none (bitsAll s0 (l.take k)) [(w2.heap.size, StObj (stAll s0 (l.take k)))]) (fun _ v7 _ => n - (intOf v7).toNat)
  case atStart => exact ⟨0, Nat.zero_le _, rfl, rfl, HP2.out⟩
  case round =>
    obtain ⟨k, hk, rfl, rfl, ho⟩ := hrel
    have hln := HL.out.len
    by_cases hlt : k < n
    · have hkl : k < l.length := by omega
      obtain ⟨b, o, rfl, hcs⟩ := int_cells HL.out.lies hkl
      have htk := take_snocL l k hkl
      have e1 : bitsAll s0 (l.take (k + 1)) = bitsAll s0 (l.take k) ++ putS (stAll s0 (l.take k)) l[k] := by rw [htk, bitsAll_snoc]
      have e2 : stAll s0 (l.take (k + 1)) = aftS (stAll s0 (l.take k)) l[k] := by rw [htk, stAll_snoc]
      have hbl := bitsAll_len s0 (l.take k)
      rw [List.length_take, Nat.min_eq_left (by omega)] at hbl
      have hpl := putS_len (stAll s0 (l.take k)) l[k]
      generalize l[k] = t at *
      generalize bitsAll s0 (l.take k) = bs at *
      generalize hss : stAll s0 (l.take k) = s at *
      have HE := Lib.hid (And.intro e1 (And.intro e2 hbl))
      obtain ⟨N, T, D⟩ := s
      obtain ⟨q, hq⟩ : ∃ q, bs.length = q := ⟨_, rfl⟩
      rw [hq] at hbl
      rw [hq]
      have HQ := Lib.hid hq
      have K := Lib.hid (fun (W W' : World) (h : PM w2 W w1.heap.size none bs [(w2.heap.size, StObj (N, T, D))]) (hb' : Below W.heap.size W W') =>
        (⟨h.below hb', hcs _ ((h.below hb').since HB2.out.1 HB2.out.2), StAt.c0 (s := (N, T, D)) ((h.below hb').at_ (by simp)), StAt.c1 (s := (N, T, D)) ((h.below hb').at_ (by simp)), StAt.c2 (s := (N, T, D)) ((h.below hb').at_ (by simp))⟩ :
          PM w2 W' w1.heap.size none bs [(w2.heap.size, StObj (N, T, D))] ∧ W'.cell? ⟨b, o + k, none⟩ = some (.int .i64 t) ∧ W'.cell? ⟨w2.heap.size, 0, none⟩ = some (.int .i64 N) ∧ W'.cell? ⟨w2.heap.size, 1, none⟩ = some (.int .i64 T) ∧ W'.cell? ⟨w2.heap.size, 2, none⟩ = some (.int .i64 D)))
      have hS0 := K.out _ _ ho (below_self_drew wr)
      have HC := Lib.hid (cost_any (N, T, D) t)
      obtain ⟨z, hz⟩ : ∃ z, (putS (N, T, D) t).length = z := ⟨_, rfl⟩
      rw [hz] at HC hpl
      have HZ := Lib.hid hz
      have i0 : (0 : Int) ≤ (k : Int) := by omega
      have i1 : (k : Int) < (n : Int) := by omega
      have HH := Lib.hid (hcs)
      clear ho hln hcs htk e1 e2 hq hz hss
      go_wp2_with fail
      go_region_held3 (fun W : World => PM w2 W w1.heap.size none bs [(w2.heap.size, StObj (N, T, D))] ∧ W.cell? ⟨b, o + k, none⟩ = some (.int .i64 t) ∧ W.cell? ⟨w2.heap.size, 0, none⟩ = some (.int .i64 N) ∧ W.cell? ⟨w2.heap.size, 1, none⟩ = some (.int .i64 T) ∧ W.cell? ⟨w2.heap.size, 2, none⟩ = some (.int .i64 D))
        (first | exact hS0 | exact K.out _ _ (And.left (by assumption)) (by assumption))
        ((go_at_call 18; refine (HC.out _).mono ?_; rintro e w9 ⟨rfl, hb9⟩))
      rename_i hh
      obtain ⟨p9, d0, f0, f1, f2⟩ := hh
      have HP9 := Lib.hid p9
      rw [show IntKind.i64.wrap ((q : Int) + (z : Int)) = ((q + z : Nat) : Int) by rw [IntWalk.i64_in _ (by omega)]; simp]
      obtain ⟨Q, hQ⟩ : ∃ Q, q + z = Q := ⟨_, rfl⟩
      rw [hQ]
      have HQQ := Lib.hid hQ
      clear p9 hb9 hS0 K HC HH hQ
      go_wp2_with fail
      go_still_tail 6, (by kernel_rfl)
      go_wp2_with fail
      refine (PM.time HP9.out.drew (by have := HE.out.2.2; omega) (N, T, D) t).mono ?_
      rintro e w3 ⟨rfl, p3⟩
      have HO3 := Lib.hid p3
      have hst : StAt w3 w2.heap.size (N, T, D) := p3.at_ (by simp)
      rw [← HE.out.2.1]
      rw [← HE.out.1] at HO3
      generalize hs' : stAll s0 (l.take (k + 1)) = s' at *
      obtain ⟨x, y, zz⟩ := s'
      have hlen : (bitsAll s0 (l.take (k + 1))).length = Q := by rw [HE.out.1, List.length_append, HQ.out, HZ.out, HQQ.out]
      have HLN := Lib.hid hlen
      have HSS := Lib.hid hs'
      clear p3 f0 f1 f2 d0 HP9 hlen hs'
      go_wp2_with (refine wpList_store_row rfl 23 _ _ rfl w2.heap.size #[.int .i64 x, .int .i64 y, .int .i64 zz] rfl rfl 23 _ hst info_st rfl (by simp [Value.oneCell']) ?_; have HO4 := Lib.hid (HO3.out.setOne #[.int .i64 x, .int .i64 y, .int .i64 zz]); clear hst; generalize w3.setRow w2.heap.size #[.int .i64 x, .int .i64 y, .int .i64 zz] = w4 at HO4 ⊢)
      go_roundw
      case rel => exact ⟨k + 1, by omega, by go_num, by rw [HLN.out], by rw [HSS.out]; exact HO4.out⟩
      case measure => simp [intOf]; omega
    · obtain rfl : k = n := by omega
      rw [List.take_of_length_le (by omega)] at ho ⊢
      have hN := stN l (by omega)
      rw [hln] at hN
      obtain ⟨q, hq⟩ : ∃ q, (bitsAll s0 l).length = q := ⟨_, rfl⟩
      rw [hq]
      have HQ := Lib.hid hq
      generalize stAll s0 l = s at *
      obtain ⟨N, T, D⟩ := s
      obtain rfl : N = (k : Int) := hN
      have HO := Lib.hid ho
      clear ho hq hln
      go_wp2_with fail
      refine HO.out.len.mono ?_
      rintro e w' ⟨rfl, rfl⟩
      rw [HQ.out]
      go_wp2_with fail
      refine HO.out.bytes.mono ?_
      rintro e w' ⟨rfl, rfl⟩
      go_wp2_with fail
      refine (all_any A k c l _ (HL.out.later (HO.out.since HB2.out.1 HB2.out.2)) (by omega)).mono ?_
      rintro e w3 ⟨rfl, hb3⟩
      have hst : StAt w3 w2.heap.size ((k : Int), T, D) := (HO.out.below hb3).at_ (by simp)
      have c0 := hst.c0
      have HB3 := Lib.hid (later (HO.out.since HB2.out.1 HB2.out.2) hb3)
      clear hb3 hst HO
      generalize (⟨(pack (bitsAll s0 l)).toArray⟩ : ByteArray) = sb at *
      go_wp2_with fail
      go_ret
      exact ⟨rfl, HB3.out⟩
end Go.Proofs.Ytdnipfkpfdglnaa.StW
