/-
  TIMES AS BITS: All, Read, WALKED.
-/
import Derived.Test.YtdnipfkpfdglnaaStGet
import Derived.Test.YtdnipfkpfdglnaaMem
namespace Go.Proofs.Ytdnipfkpfdglnaa.StW
open Go.RowKit Go.Shelf BitsM BitsW StM
def encI (x : Int) : List Value := [.int .i64 x]
theorem int_cells {w : World} {A : Option Addr} {l : List Int} (h : Lies w w.heap.size 1 encI A l) {k : Nat} (hk : k < l.length) :
    ∃ b o, A = some ⟨b, o, none⟩ ∧ ∀ W, Below w.heap.size w W → W.cell? ⟨b, o + k, none⟩ = some (.int .i64 l[k]) := by
  obtain ⟨b, o, hA, _, hc⟩ := h.all hk
  exact ⟨b, o, hA, fun W hW => by have := hc W hW 0 _ rfl; simpa using this⟩
theorem PM.time {w W : World} {bw : Nat} {rb0 : Option Nat} {b : List Bool} {L : List (Nat × Obj)} (h : PM w W bw rb0 b L) (hl : b.length + 200 ≤ 1099511627776) (s : St) (t : Int) :
    Calls Try.prog 12 #[.pointer (some ⟨bw, 0, none⟩), .agg #[.int .i64 s.1, .int .i64 s.2.1, .int .i64 s.2.2], .int .i64 t] W fun e W' => e = .returned (.agg #[.int .i64 (aftS s t).1, .int .i64 (aftS s t).2.1, .int .i64 (aftS s t).2.2]) ∧ PM w W' bw rb0 (b ++ putS s t) L := by
  obtain ⟨rb, h1, h2⟩ := h.wr
  refine (put_time bw rb b s t W h1 hl).mono ?_
  rintro e W' ⟨rfl, q⟩
  exact ⟨rfl, h.step h2 q⟩
def s0 : St := (0, 0, 0)
set_option maxHeartbeats 4000000 in
theorem all_any (A : Option Addr) (n c : Nat) (l : List Int) (w : World) (hl : Comes w 1 encI okI A n c l) (hn : n ≤ 1000000) :
    Calls Try.prog 27 #[.slice A n c] w fun e w' => e = .returned (.string ⟨(pack (bitsAll s0 l)).toArray⟩) ∧ Below w.heap.size w w' := by
  have HL := Lib.hid hl
  have hcap : c ≤ 9223372036854775807 := hl.cap
  have hle := hl.le
  clear hl
  go_enter Try.func27, Try.ntmps27
  go_wp2_with fail
  refine (newWriter_any _).mono ?_
  rintro e w1 ⟨rfl, hw1, hb1, hz1⟩
  have HP1 := Lib.hid ((PM.start hw1).alloc (StObj s0))
  have HB1 := Lib.hid hb1
  clear hw1 hb1 hz1
  go_wp2_with fail
  have HP2 : Hid (PM w1 (w1.alloc (StObj s0)) w.heap.size none [] [(w1.heap.size, StObj s0)]) := HP1
  go_loopw [6, 10] (fun _ v10 wr => ∃ k : Nat, k ≤ n ∧ v10 = .int .i64 k ∧ PM w1 wr w.heap.size none (bitsAll s0 (l.take k)) [(w1.heap.size, StObj (stAll s0 (l.take k)))]) (fun _ v10 _ => n - (intOf v10).toNat)
  case atStart => exact ⟨0, Nat.zero_le _, rfl, HP2.out⟩
  case round =>
    obtain ⟨k, hk, rfl, ho⟩ := hrel
    have hln := HL.out.len
    by_cases hlt : k < n
    · have hkl : k < l.length := by omega
      obtain ⟨b, o, rfl, hcs⟩ := int_cells HL.out.lies hkl
      have hc0 := hcs _ (ho.since HB1.out (Nat.le_refl _))
      have htk := take_snocL l k hkl
      have e1 : bitsAll s0 (l.take (k + 1)) = bitsAll s0 (l.take k) ++ putS (stAll s0 (l.take k)) l[k] := by rw [htk, bitsAll_snoc]
      have e2 : stAll s0 (l.take (k + 1)) = aftS (stAll s0 (l.take k)) l[k] := by rw [htk, stAll_snoc]
      have hbl := bitsAll_len s0 (l.take k)
      rw [List.length_take, Nat.min_eq_left (by omega)] at hbl
      have hst : StAt wr w1.heap.size (stAll s0 (l.take k)) := ho.at_ (by simp)
      generalize l[k] = t at *
      generalize bitsAll s0 (l.take k) = bs at *
      generalize stAll s0 (l.take k) = s at *
      have HE := Lib.hid (And.intro e1 (And.intro e2 hbl))
      have HO := Lib.hid ho
      obtain ⟨N, T, D⟩ := s
      have c0 := hst.c0
      have c1 := hst.c1
      have c2 := hst.c2
      have i0 : (0 : Int) ≤ (k : Int) := by omega
      have i1 : (k : Int) < (n : Int) := by omega
      clear ho hln hcs htk e1 e2 hbl hst
      go_wp2_with fail
      refine (PM.time HO.out (by have := HE.out.2.2; omega) (N, T, D) t).mono ?_
      rintro e w3 ⟨rfl, p3⟩
      have HO3 := Lib.hid p3
      have hst : StAt w3 w1.heap.size (N, T, D) := p3.at_ (by simp)
      rw [← HE.out.2.1]
      rw [← HE.out.1] at HO3
      generalize hs' : stAll s0 (l.take (k + 1)) = s' at *
      obtain ⟨x, y, z⟩ := s'
      clear p3 c0 c1 c2 HO hc0
      go_wp2_with (refine wpList_store_row rfl 23 _ _ rfl w1.heap.size #[.int .i64 x, .int .i64 y, .int .i64 z] rfl rfl 23 _ hst info_st rfl (by simp [Value.oneCell']) ?_; have HO4 := Lib.hid (HO3.out.setOne #[.int .i64 x, .int .i64 y, .int .i64 z]); clear hst; generalize w3.setRow w1.heap.size #[.int .i64 x, .int .i64 y, .int .i64 z] = w4 at HO4 ⊢)
      go_roundw
      case rel =>
        exact ⟨k + 1, by omega, by go_num, by rw [hs']; exact HO4.out⟩
      case measure => simp [intOf]; omega
    · obtain rfl : k = n := by omega
      rw [List.take_of_length_le (by omega)] at ho
      have HO := Lib.hid ho
      have HB := Lib.hid (ho.since HB1.out (Nat.le_refl _))
      clear ho
      go_wp2_with fail
      refine HO.out.bytes.mono ?_
      rintro e w' ⟨rfl, rfl⟩
      go_wp2
      go_ret
      exact ⟨rfl, HB.out⟩
/-- The times that bytes are. -/
def readB (S : List Bool) (n : Int) : Option (List Int) :=
  if n < 0 ∨ 10000 < n then none else (readS S n.toNat s0).bind fun x : List Int × List Bool => if cleanB x.2 then some x.1 else none
theorem elemI64 : Elem Try.prog 2 (.int .i64 0) 1 8 := by unfold Elem; kernel_rfl
theorem readS_step (S : List Bool) (p m : Nat) (s : St) : readS (S.drop p) (m + 1) s = match getS (S.drop p) s with | none => none | some (t, k) => (readS (S.drop (p + k)) m (aftS s t)).map fun x : List Int × List Bool => (t :: x.1, x.2) := by
  show (match getS (S.drop p) s with | none => none | some (t, k) => (readS ((S.drop p).drop k) m (aftS s t)).map fun x : List Int × List Bool => (t :: x.1, x.2)) = _
  cases getS (S.drop p) s with
  | none => rfl
  | some x => simp only [List.drop_drop]
theorem gotS_le {S : List Bool} {p : Nat} {s : St} (hs : okSt s) (hp : p ≤ S.length) : (gotS S p s).2.2 ≤ S.length := by
  unfold gotS
  cases h : getS (S.drop p) s with
  | none => exact hp
  | some x =>
    obtain ⟨t, k⟩ := x
    obtain ⟨-, -, -, h4⟩ := put_get _ _ _ _ hs h
    rw [List.length_drop] at h4
    show p + k ≤ _; omega
theorem aft_T (s : St) (t : Int) : (aftS s t).2.1 = t := by unfold aftS; split <;> rfl
set_option maxHeartbeats 4000000 in
theorem read_far (B : ByteArray) (n : Int) (w : World) (hn : n < 0 ∨ 10000 < n) :
    Calls Try.prog 25 #[.string B, .int .i64 n] w fun e w' => e = .returned (.tuple #[.slice none 0 0, .bool false]) ∧ Below w.heap.size w w' := by
  go_enter Try.func25, Try.ntmps25
  by_cases h : n < 0
  · go_wp2
    go_ret2
    exact ⟨rfl, Below.refl _ _⟩
  · have h2 : 10000 < n := by omega
    go_wp2
    go_ret2
    exact ⟨rfl, Below.refl _ _⟩
set_option maxHeartbeats 4000000 in
theorem read_near (B : ByteArray) (n : Nat) (w : World) (hs : B.size ≤ 68719476736) (hn : n ≤ 10000) :
    Calls Try.prog 25 #[.string B, .int .i64 (n : Int)] w fun e w' => ∃ v, e = .returned (.tuple #[v, .bool (readB (unpack B.data.toList) n).isSome]) ∧ w'.ownsRow w.heap.size 2 1 v ((readB (unpack B.data.toList) n).getD []).length (((readB (unpack B.data.toList) n).getD []).flatMap encI) ∧ Below w.heap.size w w' := by
  obtain ⟨S, hS⟩ : ∃ S, unpack B.data.toList = S := ⟨_, rfl⟩
  have hSl : S.length = 8 * B.size := by rw [← hS, unpack_length]; simp
  have HGT : Hid (∀ W br p s, ReaderAt W br B p → p ≤ 8 * B.size → Calls Try.prog 21 #[.pointer (some ⟨br, 0, none⟩), .agg #[.int .i64 s.1, .int .i64 s.2.1, .int .i64 s.2.2]] W fun e w' =>
      e = .returned (.tuple #[.agg #[.int .i64 (gotS S p s).1.1, .int .i64 (gotS S p s).1.2.1, .int .i64 (gotS S p s).1.2.2], .bool (gotS S p s).2.1]) ∧ BitsW.Read W br B (gotS S p s).2.2 w') :=
    Lib.hid fun W br p s h1 h2 => by rw [← hS]; exact get_time br B p s W h1 hs h2
  have HCL : Hid (∀ W br p, ReaderAt W br B p → p ≤ 8 * B.size → Calls Try.prog 41 #[.pointer (some ⟨br, 0, none⟩)] W fun e w' => e = .returned (.bool (cleanB (S.drop p))) ∧ Below W.heap.size W w') :=
    Lib.hid fun W br p h1 h2 => by rw [← hS]; exact clean_any br B p W h1 hs h2
  rw [hS]
  obtain ⟨R, hR⟩ : ∃ R, readB S n = R := ⟨_, rfl⟩
  rw [hR]
  have HR : Hid (R = (readS S n s0).bind fun x : List Int × List Bool => if cleanB x.2 then some x.1 else none) := Lib.hid (by
    rw [← hR]; unfold readB; rw [if_neg (by omega), Int.toNat_natCast])
  have HSL := Lib.hid hSl
  clear hS hSl hR
  go_enter Try.func25, Try.ntmps25
  go_wp2_with fail
  refine (newReader_any _ _).mono ?_
  rintro e w1 ⟨rfl, hw1, hb1, hz1⟩
  have HP1 : Hid (RM w1 (w1.alloc (StObj s0)) w.heap.size B 0 [(w1.heap.size, StObj s0)]) := Lib.hid ((RM.start hw1).alloc (StObj s0))
  have HB1 := Lib.hid (And.intro hb1 hz1)
  clear hw1 hb1 hz1
  go_wp2_with fail
  go_loopw [8, 9, 10, 20] (fun v8 _ _ v20 wr => ∃ (i p : Nat) (s : St) (o : List Int), i ≤ n ∧ v20 = .int .i64 i ∧ p ≤ 8 * B.size ∧ o.length = i ∧ okSt s ∧ readS S n s0 = (readS (S.drop p) (n - i) s).map (fun x : List Int × List Bool => (o ++ x.1, x.2)) ∧
      RM w1 wr w.heap.size B p [(w1.heap.size, StObj s)] ∧ w1.heap.size + 1 ≤ wr.heap.size ∧ wr.ownsRow (w1.heap.size + 1) 2 1 v8 o.length (o.flatMap encI)) (fun _ _ _ v20 _ => n - (intOf v20).toNat)
  case atStart =>
    refine ⟨0, 0, s0, [], Nat.zero_le _, rfl, Nat.zero_le _, rfl, (show okSt (0, 0, 0) by unfold okSt okI; simp), ?_, HP1.out, by simp, World.ownsRow_nil _ _ _ _⟩
    simp
  case round =>
    obtain ⟨i, p, s, o, hi, rfl, hp, hol, hok, hrd, hm, hsz, hown⟩ := hrel
    have HM := Lib.hid hm
    have HW := Lib.hid hown
    have HRD := Lib.hid (And.intro hrd (And.intro hol hok))
    have HZ := Lib.hid hsz
    have hst : StAt wr w1.heap.size s := hm.at_ (by simp)
    clear hm hown hrd hol hok hsz
    by_cases hlt : i < n
    · obtain ⟨N, T, D⟩ := s
      have c0 := hst.c0
      have c1 := hst.c1
      have c2 := hst.c2
      have i0 : (0 : Int) ≤ (i : Int) := by omega
      have i1 : (i : Int) < (n : Int) := by omega
      clear hst
      go_wp2_with fail
      refine (HGT.out _ _ p (N, T, D) HM.out.rd hp).mono ?_
      rintro e w3 ⟨rfl, hread⟩
      have hm3 := HM.out.got hread
      have hown3 : w3.ownsRow (w1.heap.size + 1) 2 1 _ o.length (o.flatMap encI) := own_but HW.out (by have := HB1.out.2; omega) hread.size hread.old
      have hz3 : w1.heap.size + 1 ≤ w3.heap.size := Nat.le_trans HZ.out hread.size
      have hqle := gotS_le (S := S) HRD.out.2.2 (by rw [HSL.out]; exact hp)
      rw [HSL.out] at hqle
      have hni : n - i = (n - (i + 1)) + 1 := by omega
      have hstep := readS_step S p (n - (i + 1)) (N, T, D)
      rw [← hni] at hstep
      cases hg : getS (S.drop p) (N, T, D) with
      | none =>
        have hG : gotS S p (N, T, D) = ((N, T, D), false, p) := by unfold gotS; rw [hg]
        rw [hG]
        have hRn : R = none := by
          rw [HR.out, HRD.out.1, hstep, hg]; rfl
        have HBF := Lib.hid (hm3.since HB1.out.1 (Nat.le_refl _))
        clear hstep hg hG hqle hm3 hown3 hread c0 c1 c2
        go_wp2_with fail
        go_ret2
        refine ⟨.slice none 0 0, ?_, ?_, ?_⟩
        · rw [hRn]; rfl
        · rw [hRn]; exact World.ownsRow_nil _ _ _ _
        · exact HBF.out.alloc HBF.out.size _
      | some x =>
        obtain ⟨t, k⟩ := x
        have hG : gotS S p (N, T, D) = (aftS (N, T, D) t, true, p + k) := by unfold gotS; rw [hg]
        rw [hG] at hqle hm3 ⊢
        rw [hg] at hstep
        simp only [] at hstep
        have hput := put_get _ _ _ _ HRD.out.2.2 hg
        have hok2 := okSt_aft HRD.out.2.2 hput.1
        have hT := aft_T (N, T, D) t
        generalize aftS (N, T, D) t = s' at *
        obtain ⟨x, y, z⟩ := s'
        obtain rfl : y = t := hT
        obtain ⟨q, hq⟩ : ∃ q, p + k = q := ⟨_, rfl⟩
        simp only [hq] at hqle hm3 hstep
        have HM3 := Lib.hid hm3
        have HO3 := Lib.hid hown3
        have HS := Lib.hid (And.intro hstep hok2)
        have HQ := Lib.hid hqle
        have hz1 := HB1.out.2
        have hbig : Hid (RM w1 (w3.alloc (.cells #[.int .i64 x, .int .i64 y, .int .i64 z] 23 (0, 0))) w.heap.size B q [(w1.heap.size, StObj (N, T, D))]) := Lib.hid (hm3.below ((Below.refl _ _).alloc (Nat.le_refl _) _))
        have HO4 : Hid ((w3.alloc (.cells #[.int .i64 x, .int .i64 y, .int .i64 z] 23 (0, 0))).ownsRow (w1.heap.size + 1) 2 1 _ o.length (o.flatMap encI)) := Lib.hid (hown3.alloc _)
        have hst : StAt (w3.alloc (.cells #[.int .i64 x, .int .i64 y, .int .i64 z] 23 (0, 0))) w1.heap.size (N, T, D) := hbig.out.at_ (by simp)
        clear hstep hok2 hput hg hG hqle hm3 hown3 hread c0 c1 c2 HM HW
        go_wp2_with (first
          | (refine wpList_store_row rfl 23 _ _ rfl w1.heap.size #[.int .i64 x, .int .i64 y, .int .i64 z] rfl rfl 23 _ hst info_st rfl (by simp [Value.oneCell']) ?_
             have HM5 := Lib.hid (hbig.out.setOne #[.int .i64 x, .int .i64 y, .int .i64 z])
             have hown5 := own_but (w' := (w3.alloc (.cells #[.int .i64 x, .int .i64 y, .int .i64 z] 23 (0, 0))).setRow w1.heap.size #[.int .i64 x, .int .i64 y, .int .i64 z]) HO4.out (Nat.lt_succ_self _) (by simp) (fun j _ hj => setRow_other _ _ _ _ hj)
             have hz5 : w1.heap.size + 1 ≤ ((w3.alloc (.cells #[.int .i64 x, .int .i64 y, .int .i64 z] 23 (0, 0))).setRow w1.heap.size #[.int .i64 x, .int .i64 y, .int .i64 z]).heap.size := by simp; omega
             clear hst HO4 hbig
             generalize (w3.alloc (.cells #[.int .i64 x, .int .i64 y, .int .i64 z] 23 (0, 0))).setRow w1.heap.size #[.int .i64 x, .int .i64 y, .int .i64 z] = w5 at HM5 hown5 hz5 ⊢
             have d1 : w5.cell? ⟨w1.heap.size, 1, none⟩ = some (.int .i64 y) := StAt.c1 (s := (x, y, z)) (HM5.out.at_ (by simp [StObj])))
          | (at_builtin; go_must (refine wpList_append_one rfl _ _ 47 rfl (w1.heap.size + 1) 2 (.int .i64 0) 1 8 Try.underlying47 elemI64 rfl (by decide) w5 hown5 rfl _ rfl rfl (one1 rfl) (by have := HRD.out.2.1; omega) (by have := HRD.out.2.1; omega) hz5 ?_); intro v' w' hown' hb' hz'; clear hown5))
        refine ⟨⟨i + 1, q, (x, y, z), o ++ [y], by omega, by go_num, by have := HM5.out; exact HQ.out, by rw [List.length_append, HRD.out.2.1]; rfl, HS.out.2, ?_, ?_, by omega, ?_⟩, by simp [intOf]; omega⟩
        · rw [HRD.out.1, HS.out.1, Option.map_map]
          congr 1
          funext x
          simp
        · exact HM5.out.belowB hb' (by omega) (fun x hx => by rw [List.mem_singleton.1 hx]; simp) (by omega)
        · rw [List.length_append, List.flatMap_append]
          exact hown'
    · obtain rfl : i = n := by omega
      have hRn : R = if cleanB (S.drop p) then some o else none := by
        rw [HR.out, HRD.out.1, Nat.sub_self]
        show (((some ([], S.drop p)).map fun x : List Int × List Bool => (o ++ x.1, x.2)).bind _) = _
        simp
      have HRN := Lib.hid hRn
      clear hRn hst
      go_wp2_with fail
      refine (HCL.out _ _ p HM.out.rd hp).mono ?_
      rintro e w3 ⟨rfl, hb3⟩
      have HBF := Lib.hid (later (HM.out.since HB1.out.1 (Nat.le_refl _)) hb3)
      have HO3 := Lib.hid (own_base (own_later HW.out hb3) (b2 := w.heap.size) (by have := HB1.out.2; omega))
      obtain ⟨C, hC⟩ : ∃ C, cleanB (S.drop p) = C := ⟨_, rfl⟩
      rw [hC] at HRN ⊢
      clear hb3 hC
      cases C with
      | true =>
        have hRt : R = some o := by rw [HRN.out, if_pos rfl]
        go_wp2
        go_ret2
        subst hRt
        exact ⟨_, rfl, HO3.out, HBF.out⟩
      | false =>
        have hRt : R = none := by rw [HRN.out]; rfl
        go_wp2
        go_ret2
        subst hRt
        exact ⟨_, rfl, World.ownsRow_nil _ _ _ _, HBF.out⟩
end Go.Proofs.Ytdnipfkpfdglnaa.StW
