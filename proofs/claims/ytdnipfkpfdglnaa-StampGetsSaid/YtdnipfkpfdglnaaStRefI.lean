/-
  alluviumref04.Bits, All, Read: THE WALKS.
-/
import Derived.Test.YtdnipfkpfdglnaaStRefH
import Derived.Deep.RegionHeld3
namespace Go.Proofs.Ytdnipfkpfdglnaa.StW
set_option linter.unusedVariables false
open Go.RowKit Go.Shelf BitsM BitsW StM
theorem bstr_nil : (⟨#[]⟩ : ByteArray) = bstr [] := rfl
set_option maxRecDepth 20000 in
set_option maxHeartbeats 4000000 in
theorem rbitsAll_any (A : Option Addr) (n c : Nat) (l : List Int) (w : World) (hl : Comes w 1 encI okI A n c l) (hn : n ≤ 1000000) :
    Calls Try.prog 43 #[.slice A n c] w fun e w' => e = .returned (.string (bstr (bitsAll s0 l))) ∧ Below w.heap.size w w' := by
  have HL := Lib.hid hl
  have hcap : c ≤ 9223372036854775807 := hl.cap
  have hle := hl.le
  clear hl
  go_enter Try.func43, Try.ntmps43
  go_wp2_with fail
  have HB0 : Hid (Below w.heap.size w (w.alloc (RtObj s0)) ∧ RtAt (w.alloc (RtObj s0)) w.heap.size s0) := Lib.hid (And.intro ((Below.refl _ _).alloc (Nat.le_refl _) _) (heap_alloc_new w _))
  go_loopw [3, 5, 6, 7] (fun v3 v5 _ _ wr => ∃ k : Nat, k ≤ n ∧ v5 = .int .i64 k ∧ v3 = .string (bstr (bitsAll s0 (l.take k))) ∧ Below w.heap.size w wr ∧ RtAt wr w.heap.size (stAll s0 (l.take k))) (fun _ v5 _ _ _ => n - (intOf v5).toNat)
  case atStart => exact ⟨0, Nat.zero_le _, rfl, rfl, HB0.out.1, HB0.out.2⟩
  case round =>
    obtain ⟨k, hk, rfl, rfl, ho, hst⟩ := hrel
    have hln := HL.out.len
    by_cases hlt : k < n
    · have hkl : k < l.length := by omega
      obtain ⟨b, o, rfl, hcs⟩ := int_cells HL.out.lies hkl
      have hc0 := hcs _ ho
      have htk := take_snocL l k hkl
      have e1 : bitsAll s0 (l.take (k + 1)) = bitsAll s0 (l.take k) ++ putS (stAll s0 (l.take k)) l[k] := by rw [htk, bitsAll_snoc]
      have e2 : stAll s0 (l.take (k + 1)) = aftS (stAll s0 (l.take k)) l[k] := by rw [htk, stAll_snoc]
      have hbl := bitsAll_len s0 (l.take k)
      rw [List.length_take, Nat.min_eq_left (by omega)] at hbl
      have hpl := putS_len (stAll s0 (l.take k)) l[k]
      generalize l[k] = t at *
      generalize bitsAll s0 (l.take k) = bs at *
      generalize stAll s0 (l.take k) = s at *
      obtain ⟨N, T, D⟩ := s
      have HP := Lib.hid (rput_any (N, T, D) t)
      generalize putS (N, T, D) t = P at *
      generalize hs' : aftS (N, T, D) t = s' at *
      obtain ⟨x, y, z⟩ := s'
      have HE := Lib.hid (And.intro e1 e2)
      have c0 := hst.c0
      have c1 := hst.c1
      have c2 := hst.c2
      have HS := Lib.hid (And.intro ho hst)
      have hz1 := bstr_size bs
      have hz2 := bstr_size P
      obtain ⟨q1, hq1⟩ : ∃ q1, bs.length = q1 := ⟨_, rfl⟩
      obtain ⟨q2, hq2⟩ : ∃ q2, P.length = q2 := ⟨_, rfl⟩
      rw [hq1] at hz1 hbl
      rw [hq2] at hz2 hpl
      have i0 : (0 : Int) ≤ (k : Int) := by omega
      have i1 : (k : Int) < (n : Int) := by omega
      have HCS := Lib.hid hcs
      clear ho hst hln hcs htk e1 e2 hs' hq1 hq2
      simp only [] at c0 c1 c2
      have K := Lib.hid (fun (W W' : World) (h : Below w.heap.size w W ∧ RtAt W w.heap.size (N, T, D)) (hb' : Below W.heap.size W W') =>
        (⟨⟨later h.1 hb', h.2.later hb'⟩, HCS.out _ (later h.1 hb'), (h.2.later hb').c0, (h.2.later hb').c1, (h.2.later hb').c2⟩ :
          (Below w.heap.size w W' ∧ RtAt W' w.heap.size (N, T, D)) ∧ W'.cell? ⟨b, o + k, none⟩ = some (.int .i64 t) ∧ W'.cell? ⟨w.heap.size, 0, none⟩ = some (.int .i64 N) ∧ W'.cell? ⟨w.heap.size, 1, none⟩ = some (.int .i64 T) ∧ W'.cell? ⟨w.heap.size, 2, none⟩ = some (.int .i64 D)))
      have hS0 := K.out _ _ HS.out (below_self_drew wr)
      have K2 := Lib.hid (fun (W' : World) (h1 : Below w.heap.size w W') (h2 : RtAt W' w.heap.size (N, T, D)) =>
        (⟨⟨h1, h2⟩, HCS.out _ h1, h2.c0, h2.c1, h2.c2⟩ : (Below w.heap.size w W' ∧ RtAt W' w.heap.size (N, T, D)) ∧ W'.cell? ⟨b, o + k, none⟩ = some (.int .i64 t) ∧ W'.cell? ⟨w.heap.size, 0, none⟩ = some (.int .i64 N) ∧ W'.cell? ⟨w.heap.size, 1, none⟩ = some (.int .i64 T) ∧ W'.cell? ⟨w.heap.size, 2, none⟩ = some (.int .i64 D)))
      have hwz : w.heap.size + 1 ≤ wr.heap.size := (Array.getElem?_eq_some_iff.1 HS.out.2).1
      have K3 := Lib.hid (fun (W9 : World) (h : Below wr.drew.heap.size wr.drew W9) (ob : Obj) => K.out wr.drew (W9.alloc ob) hS0.1 (h.alloc h.size ob))
      have K5 := Lib.hid (fun (ob : Obj) => K.out wr (wr.alloc ob).drew HS.out (show Below wr.heap.size wr (wr.alloc ob).drew from ((Below.refl _ _).alloc (Nat.le_refl _) ob).trans ⟨rfl, rfl, rfl, Nat.le_refl _, fun _ _ => rfl⟩))
      have Z := Lib.hid (fun (W9 : World) (h : Below (wr.alloc (.cells #[.int .i64 0, .int .i64 0, .int .i64 0] 28 (0, 0))).drew.heap.size (wr.alloc (.cells #[.int .i64 0, .int .i64 0, .int .i64 0] 28 (0, 0))).drew W9) =>
        have hz : RtAt W9 wr.heap.size (0, 0, 0) := RtAt.later (W := (wr.alloc (.cells #[.int .i64 0, .int .i64 0, .int .i64 0] 28 (0, 0))).drew) (heap_alloc_new wr _) h
        (⟨hz.c0, hz.c1, hz.c2, frozen_of_row W9 _ 0 _ _ hz, frozen_of_row W9 _ 1 _ _ hz, frozen_of_row W9 _ 2 _ _ hz⟩ :
          W9.cell? ⟨wr.heap.size, 0, none⟩ = some (.int .i64 0) ∧ W9.cell? ⟨wr.heap.size, 1, none⟩ = some (.int .i64 0) ∧ W9.cell? ⟨wr.heap.size, 2, none⟩ = some (.int .i64 0) ∧ W9.frozen? ⟨wr.heap.size, 0, none⟩ = false ∧ W9.frozen? ⟨wr.heap.size, 1, none⟩ = false ∧ W9.frozen? ⟨wr.heap.size, 2, none⟩ = false))
      have HPZ := Lib.hid ((HP.out (wr.alloc (.cells #[.int .i64 0, .int .i64 0, .int .i64 0] 28 (0, 0))).drew).mono fun e W9 h => (And.intro h.1 (And.intro h.2 (Z.out _ h.2)) : _))
      have K4 := Lib.hid (fun (W9 : World) (ob : Obj) (h : Below (wr.alloc ob).drew.heap.size (wr.alloc ob).drew W9) (a b' c' : Value) =>
        K2.out (((W9.setCell ⟨wr.heap.size, 0, none⟩ a).setCell ⟨wr.heap.size, 1, none⟩ b').setCell ⟨wr.heap.size, 2, none⟩ c')
          (set3_below _ _ _ (hS0.1.1.trans (((Below.refl _ _).alloc (Nat.le_refl _) ob).mono hS0.1.1.size |>.trans (h.mono (Nat.le_trans hS0.1.1.size (by simp))))) (by omega))
          (((heap_setCell_other _ _ _ _ (by show w.heap.size ≠ wr.heap.size; omega)).trans ((heap_setCell_other _ _ _ _ (by show w.heap.size ≠ wr.heap.size; omega)).trans (heap_setCell_other _ _ _ _ (by show w.heap.size ≠ wr.heap.size; omega)))).trans
            ((hS0.1.2.later ((Below.refl _ _).alloc (Nat.le_refl _) ob)).later h)))
      clear c0 c1 c2 hc0
      go_wp2_with fail
      go_region_held3 (fun W : World => (Below w.heap.size w W ∧ RtAt W w.heap.size (N, T, D)) ∧ W.cell? ⟨b, o + k, none⟩ = some (.int .i64 t) ∧ W.cell? ⟨w.heap.size, 0, none⟩ = some (.int .i64 N) ∧ W.cell? ⟨w.heap.size, 1, none⟩ = some (.int .i64 T) ∧ W.cell? ⟨w.heap.size, 2, none⟩ = some (.int .i64 D))
        (first | exact hS0 | exact K5.out _ | exact K.out _ _ (And.left (by assumption)) (by assumption) | exact K3.out _ (by assumption) _ | exact K4.out _ _ (by assumption) _ _ _)
        (first
          | (go_at_call 13; refine HPZ.out.mono ?_; rintro e w9 ⟨rfl, hb9, z0, z1, z2, y0, y1, y2⟩)
          | (go_at_call 13; refine (HP.out _).mono ?_; rintro e w9 ⟨rfl, hb9⟩))
      · rename_i hh
        have ht4 := heap_alloc_new w9 (RtObj (x, y, z))
        change RtAt (w9.alloc (.cells #[.int .i64 x, .int .i64 y, .int .i64 z] 28 (0, 0))) w9.heap.size (x, y, z) at ht4
        generalize w9.alloc (.cells #[.int .i64 x, .int .i64 y, .int .i64 z] 28 (0, 0)) = w4 at hh ht4 ⊢
        have HB4 := Lib.hid hh.1.1
        have hst4 := hh.1.2
        have k0 := ht4.c0
        have k1 := ht4.c1
        have k2 := ht4.c2
        simp only [] at k0 k1 k2
        clear hh ht4 K K2 K3 K4 K5 HPZ hS0 Z HP hb9
        go_wp2_with (refine wpList_store_row rfl 28 _ _ rfl w.heap.size #[.int .i64 x, .int .i64 y, .int .i64 z] rfl rfl 28 _ hst4 info_rt rfl (by simp [Value.oneCell']) ?_; have HB5 := Lib.hid (below_setRow HB4.out (Nat.le_refl _) #[.int .i64 x, .int .i64 y, .int .i64 z]); have HR5 : Hid (RtAt (w4.setRow w.heap.size #[.int .i64 x, .int .i64 y, .int .i64 z]) w.heap.size (x, y, z)) := Lib.hid (setRow_heap _ _ _ _ _ _ hst4); clear hst4 k0 k1 k2; generalize w4.setRow w.heap.size #[.int .i64 x, .int .i64 y, .int .i64 z] = w5 at HB5 HR5 ⊢)
        go_roundw
        case rel => exact ⟨k + 1, by omega, by go_num, by rw [HE.out.1, bstr_append], HB5.out, by rw [HE.out.2]; exact HR5.out⟩
        case measure => simp [intOf]; omega
      · rename_i hh
        have hz9 : RtAt w9 wr.heap.size (0, 0, 0) := RtAt.later (W := (wr.alloc (RtObj (0, 0, 0))).drew) (heap_alloc_new wr _) hb9
        have ht4 : RtAt (((w9.setCell ⟨wr.heap.size, 0, none⟩ (.int .i64 x)).setCell ⟨wr.heap.size, 1, none⟩ (.int .i64 y)).setCell ⟨wr.heap.size, 2, none⟩ (.int .i64 z)) wr.heap.size (x, y, z) := set3_row _ _ _ hz9
        generalize ((w9.setCell ⟨wr.heap.size, 0, none⟩ (.int .i64 x)).setCell ⟨wr.heap.size, 1, none⟩ (.int .i64 y)).setCell ⟨wr.heap.size, 2, none⟩ (.int .i64 z) = w4 at hh ht4 ⊢
        have HB4 := Lib.hid hh.1.1
        have hst4 := hh.1.2
        have k0 := ht4.c0
        have k1 := ht4.c1
        have k2 := ht4.c2
        simp only [] at k0 k1 k2
        clear hh ht4 K K2 K3 K4 K5 HPZ hS0 Z HP hb9
        go_wp2_with (refine wpList_store_row rfl 28 _ _ rfl w.heap.size #[.int .i64 x, .int .i64 y, .int .i64 z] rfl rfl 28 _ hst4 info_rt rfl (by simp [Value.oneCell']) ?_; have HB5 := Lib.hid (below_setRow HB4.out (Nat.le_refl _) #[.int .i64 x, .int .i64 y, .int .i64 z]); have HR5 : Hid (RtAt (w4.setRow w.heap.size #[.int .i64 x, .int .i64 y, .int .i64 z]) w.heap.size (x, y, z)) := Lib.hid (setRow_heap _ _ _ _ _ _ hst4); clear hst4 k0 k1 k2; generalize w4.setRow w.heap.size #[.int .i64 x, .int .i64 y, .int .i64 z] = w5 at HB5 HR5 ⊢)
        go_roundw
        case rel => exact ⟨k + 1, by omega, by go_num, by rw [HE.out.1, bstr_append], HB5.out, by rw [HE.out.2]; exact HR5.out⟩
        case measure => simp [intOf]; omega
    · obtain rfl : k = n := by omega
      rw [List.take_of_length_le (by omega)]
      have HO := Lib.hid ho
      clear ho hst hln
      go_wp2
      go_ret
      exact ⟨rfl, HO.out⟩
set_option maxHeartbeats 1000000 in
theorem rall_any (A : Option Addr) (n c : Nat) (l : List Int) (w : World) (hl : Comes w 1 encI okI A n c l) (hn : n ≤ 1000000) :
    Calls Try.prog 28 #[.slice A n c] w fun e w' => e = .returned (.string ⟨(pack (bitsAll s0 l)).toArray⟩) ∧ Below w.heap.size w w' := by
  have HA := Lib.hid (rbitsAll_any A n c l w hl hn)
  have hbl := bitsAll_len s0 l
  have hln := hl.len
  have HB := Lib.hid (fun W => rbytes_any (bitsAll s0 l) W (by omega))
  clear hl hbl hln
  generalize bitsAll s0 l = bs at *
  go_enter Try.func28, Try.ntmps28
  go_wp2_with fail
  refine HA.out.mono ?_
  rintro e w1 ⟨rfl, hb1⟩
  have HB1 := Lib.hid hb1
  clear hb1
  go_wp2_with fail
  refine (HB.out _).mono ?_
  rintro e w2 ⟨rfl, hb2⟩
  have HB2 := Lib.hid (later HB1.out hb2)
  clear hb2
  go_wp2
  go_ret
  exact ⟨rfl, HB2.out⟩
set_option maxHeartbeats 1000000 in
theorem rread_far (B : ByteArray) (n : Int) (w : World) (hn : n < 0 ∨ 10000 < n) :
    Calls Try.prog 26 #[.string B, .int .i64 n] w fun e w' => e = .returned (.tuple #[.slice none 0 0, .bool false]) ∧ Below w.heap.size w w' := by
  go_enter Try.func26, Try.ntmps26
  by_cases h : n < 0
  · go_wp2
    go_ret2
    exact ⟨rfl, Below.refl _ _⟩
  · have h2 : 10000 < n := by omega
    go_wp2
    go_ret2
    exact ⟨rfl, Below.refl _ _⟩
theorem refG_split {b : List Bool} {s : St} (hs : okSt s) (n : Nat) : readS b (n + 1) s = (if (refG b s).2.2 then (readS (refG b s).2.1 n (refG b s).1).map (fun x : List Int × List Bool => ((refG b s).1.2.1 :: x.1, x.2)) else none) := by
  unfold refG
  cases h : getS b s with
  | none => show (match getS b s with | none => none | some (t, k) => _) = _; rw [h]; rfl
  | some x =>
    obtain ⟨t, k⟩ := x
    show (match getS b s with | none => none | some (t, k) => (readS (b.drop k) n (aftS s t)).map fun x : List Int × List Bool => (t :: x.1, x.2)) = _
    rw [h]
    simp only [if_true, aft_T]
theorem refG_ok {b : List Bool} {s : St} (hs : okSt s) : okSt (refG b s).1 ∧ (refG b s).2.1.length ≤ b.length := by
  unfold refG
  cases h : getS b s with
  | none => exact ⟨hs, Nat.le_refl _⟩
  | some x =>
    obtain ⟨t, k⟩ := x
    obtain ⟨h1, -⟩ := put_get b s t k hs h
    exact ⟨okSt_aft hs h1, by show (b.drop k).length ≤ _; rw [List.length_drop]; omega⟩
theorem okSt0 : okSt s0 := show okSt (0, 0, 0) by unfold okSt okI; simp
/-- 'append(s, x)' of one thing, onto a row of the call's own: all other blocks are as they were. -/
theorem wpList_append_keep {P : Program} {ops : Array Oper} {rest : List Oper} {o : Oper} {a : Act} {Q : Exit → Act → World → Prop} (hgd : o.guard = none) (s x : Operand) (t : TypeId)
    (ho : o.op = .call { callee := .builtin .append, args := #[s, x], argTypes := #[t, t] })
    (base : Nat) (e : TypeId) (z : Value) (size bytes : Nat) (ht : P.underlying t = some (.slice e)) (he : Elem P e z size bytes) (hzs : z.cells.size = size) (hsz : 0 < size)
    {v : Value} {n : Nat} {xs : List Value} (wr : World) (hown : wr.ownsRow base e size v n xs) (hs : a.eval s = v) (us : Array Value)
    (hx : a.eval x = .slice (some ⟨wr.heap.size, 0, none⟩) 1 1) (hl : us.size = size) (h1 : ∀ u ∈ us.toList, u.oneCell' = true)
    (hbytes : (n + 1) * bytes ≤ 140737488355328) (h63 : n + 1 ≤ 140737488355328) (hbase : base ≤ wr.heap.size)
    (h : ∀ v' w', w'.ownsRow base e size v' (n + 1) (xs ++ us.toList) → Below base wr w' → wr.heap.size < w'.heap.size → (∀ k, k < wr.heap.size → v.ownBlock ≠ some k → w'.heap[k]? = wr.heap[k]?) → wpList P ops Q rest (a.put o.dst v') w') :
    wpList P ops Q (o :: rest) a (wr.alloc (.cells us e (0, 0))) := by
  obtain ⟨i0, hi, hz0, hz1, hz2⟩ := info_parts he
  refine wpList_append_own (w := wr.alloc (.cells us e (0, 0))) hgd s x t ho base e i0 z size bytes ht hi hz0 hz1 hz2 hzs hsz v n xs hs (hown.alloc _) ⟨wr.heap.size, 0, none⟩ 1 1 us.toList hx (by simp [hl]) ?_ h1 ?_ hbytes ?_ ?_
  · intro j u hj
    have hp : (⟨wr.heap.size, 0, none⟩ : Addr).add j = ⟨wr.heap.size, j, none⟩ := by unfold Addr.add; split <;> simp_all
    rw [hp, World.cell?_alloc_mark]
    simpa using hj
  · unfold maxLen; omega
  · simp; omega
  · intro v' w' hown' hg _
    refine h v' w' hown' ?_ ?_ ?_
    · refine ((Below.refl base wr).alloc hbase _).grown hg (by simp; omega) ?_
      intro k hk
      rcases hown.2 with ⟨hv, _⟩ | ⟨g, cap, cur, hv, hgb, _⟩
      · rw [hv] at hk; cases hk
      · rw [hv] at hk; cases hk; exact hgb
    · have := hg.size; simp at this; omega
    · intro k hk hne
      exact (hg.block k (by simp; omega) (fun e => hne e.symm)).trans (Below.heap_alloc wr _ k hk)
theorem own_lt {w : World} {base n size : Nat} {e : TypeId} {v : Value} {xs : List Value} (h : w.ownsRow base e size v n xs) : ∀ k, v.ownBlock = some k → base ≤ k ∧ k < w.heap.size := by
  intro k hk
  rcases h.2 with ⟨hv, _⟩ | ⟨g, cap, cur, hv, hgb, hh, _⟩
  · rw [hv] at hk; cases hk
  · rw [hv] at hk; cases hk; exact ⟨hgb, (Array.getElem?_eq_some_iff.1 hh).1⟩
set_option maxRecDepth 20000 in
set_option maxHeartbeats 4000000 in
theorem rread_near (B : ByteArray) (n : Nat) (w : World) (hs : B.size ≤ 1000000) (hn : n ≤ 10000) :
    Calls Try.prog 26 #[.string B, .int .i64 (n : Int)] w fun e w' => ∃ v, e = .returned (.tuple #[v, .bool (readB (unpack B.data.toList) n).isSome]) ∧ w'.ownsRow w.heap.size 2 1 v ((readB (unpack B.data.toList) n).getD []).length (((readB (unpack B.data.toList) n).getD []).flatMap encI) ∧ Below w.heap.size w w' := by
  have HOF := Lib.hid (rof_any B w (by omega))
  obtain ⟨S, hS⟩ : ∃ S, unpack B.data.toList = S := ⟨_, rfl⟩
  have hSl : S.length = 8 * B.size := by rw [← hS, unpack_length]; simp
  rw [hS] at HOF ⊢
  obtain ⟨R, hR⟩ : ∃ R, readB S n = R := ⟨_, rfl⟩
  rw [hR]
  have HR : Hid (R = (readS S n s0).bind fun x : List Int × List Bool => if cleanB x.2 then some x.1 else none) := Lib.hid (by
    rw [← hR]; unfold readB; rw [if_neg (by omega), Int.toNat_natCast])
  have HSL := Lib.hid hSl
  clear hS hSl hR
  go_enter Try.func26, Try.ntmps26
  go_wp2_with fail
  refine HOF.out.mono ?_
  rintro e w' ⟨rfl, rfl⟩
  go_wp2_with fail
  have HB0 : Hid (Below (w.heap.size) w (w.alloc (RtObj s0)) ∧ RtAt (w.alloc (RtObj s0)) w.heap.size s0) := Lib.hid (And.intro ((Below.refl _ _).alloc (Nat.le_refl _) _) (heap_alloc_new w _))
  go_loopw [6, 8, 9, 10, 11, 12] (fun v6 v8 v9 _ _ _ wr => ∃ (i : Nat) (b : List Bool) (s : St) (o : List Int), i ≤ n ∧ v9 = .int .i64 i ∧ v6 = .string (bstr b) ∧ b.length ≤ 8 * B.size ∧ o.length = i ∧ okSt s ∧ readS S n s0 = (readS b (n - i) s).map (fun x : List Int × List Bool => (o ++ x.1, x.2)) ∧
      Below w.heap.size w wr ∧ RtAt wr w.heap.size s ∧ wr.ownsRow (w.heap.size + 1) 2 1 v8 o.length (o.flatMap encI)) (fun _ _ v9 _ _ _ _ => n - (intOf v9).toNat)
  case atStart => exact ⟨0, S, s0, [], Nat.zero_le _, rfl, rfl, by rw [HSL.out]; exact Nat.le_refl _, rfl, okSt0, by simp, HB0.out.1, HB0.out.2, World.ownsRow_nil _ _ _ _⟩
  case round =>
    obtain ⟨i, b, s, o, hi, rfl, rfl, hbl, hol, hok, hrd, ho, hst, hown⟩ := hrel
    have HO := Lib.hid (And.intro ho hst)
    have HW := Lib.hid hown
    have HRD := Lib.hid (And.intro hrd (And.intro hol hok))
    have hwz : w.heap.size + 1 ≤ wr.heap.size := (Array.getElem?_eq_some_iff.1 hst).1
    clear ho hown hrd hol hok
    by_cases hlt : i < n
    · have hsp := refG_split (b := b) HRD.out.2.2 (n - (i + 1))
      rw [show n - (i + 1) + 1 = n - i by omega] at hsp
      have hgo := refG_ok (b := b) HRD.out.2.2
      have HG := Lib.hid (fun W => rget_any b s W HRD.out.2.2 (by omega))
      obtain ⟨⟨⟨x, y, z⟩, b2, ok⟩, hG⟩ : ∃ G, refG b s = G := ⟨_, rfl⟩
      rw [hG] at hsp hgo HG
      obtain ⟨N, T, D⟩ := s
      have c0 := hst.c0
      have c1 := hst.c1
      have c2 := hst.c2
      simp only [] at c0 c1 c2
      have HH := Lib.hid (And.intro hsp hgo)
      have i0 : (0 : Int) ≤ (i : Int) := by omega
      have i1 : (i : Int) < (n : Int) := by omega
      clear hst hsp hgo hG
      go_wp2_with fail
      refine (HG.out _).mono ?_
      rintro e w3 ⟨rfl, hb3⟩
      obtain ⟨w4, hw4⟩ : ∃ w4, w3.alloc (.cells #[.int .i64 x, .int .i64 y, .int .i64 z] 28 (0, 0)) = w4 := ⟨_, rfl⟩
      have hb34 : Below w3.heap.size w3 w4 := by rw [← hw4]; exact (Below.refl _ _).alloc (Nat.le_refl _) _
      have hb4 := later hb3 hb34
      have HB4 := Lib.hid (later HO.out.1 hb4)
      have hst4 : RtAt w4 w.heap.size (N, T, D) := HO.out.2.later hb4
      have ht4 : RtAt w4 w3.heap.size (x, y, z) := by rw [← hw4]; exact heap_alloc_new w3 _
      have hown4 := own_later HW.out hb4
      have hlt9 : ∀ k, Value.ownBlock _ = some k → k < w3.heap.size := fun k hk => Nat.lt_of_lt_of_le (own_lt HW.out k hk).2 hb3.size
      have hwz4 : w.heap.size + 1 ≤ w4.heap.size := Nat.le_trans hwz hb4.size
      clear hb3 hb34 hb4 c0 c1 c2 HW
      cases ok with
      | false =>
        have hRn : R = none := by
          rw [HR.out, HRD.out.1, HH.out.1]; rfl
        subst hRn
        go_wp2
        go_ret2
        exact ⟨_, rfl, World.ownsRow_nil _ _ _ _, HB4.out⟩
      | true =>
        have k0 := ht4.c0
        have k1 := ht4.c1
        have k2 := ht4.c2
        simp only [] at k0 k1 k2
        have HT4 := Lib.hid ht4
        have HLT := Lib.hid hlt9
        have HS4 := Lib.hid hst4
        clear ht4 hst4
        go_wp2_with (first
          | (at_builtin; go_must (refine wpList_append_keep rfl _ _ 47 rfl (w.heap.size + 1) 2 (.int .i64 0) 1 8 Try.underlying47 elemI64 rfl (by decide) w4 hown4 rfl _ rfl rfl (one1 rfl) (by have := HRD.out.2.1; omega) (by have := HRD.out.2.1; omega) hwz4 ?_)
             intro v' w' hown' hb' hz' hkp'
             have hst5 : RtAt w' w.heap.size (N, T, D) := (hb'.block _ (Nat.lt_succ_self _)).trans HS4.out
             have ht5 : RtAt w' w3.heap.size (x, y, z) := (hkp' _ (Array.getElem?_eq_some_iff.1 HT4.out).1 (fun e => by have := HLT.out _ e; omega)).trans HT4.out
             have j0 := ht5.c0
             have j1 := ht5.c1
             have j2 := ht5.c2
             have HB5 := Lib.hid (HB4.out.trans (hb'.mono (Nat.le_succ _)))
             have HW5 := Lib.hid hown'
             simp only [] at j0 j1 j2
             clear hown4 hown' hb' hz' hkp' k0 k1 k2 ht5)
          | (refine wpList_store_row rfl 28 _ _ rfl w.heap.size #[.int .i64 x, .int .i64 y, .int .i64 z] rfl rfl 28 _ hst5 info_rt rfl (by simp [Value.oneCell']) ?_
             have HB6 := Lib.hid (below_setRow HB5.out (Nat.le_refl _) #[.int .i64 x, .int .i64 y, .int .i64 z])
             have HR6 : Hid (RtAt (w'.setRow w.heap.size #[.int .i64 x, .int .i64 y, .int .i64 z]) w.heap.size (x, y, z)) := Lib.hid (setRow_heap _ _ _ _ _ _ hst5)
             have hown6 := own_but (w' := w'.setRow w.heap.size #[.int .i64 x, .int .i64 y, .int .i64 z]) HW5.out (Nat.lt_succ_self _) (by simp) (fun j _ hj => setRow_other _ _ _ _ hj)
             have HW6 := Lib.hid hown6
             clear hown6 hst5 j0 j1 j2
             generalize w'.setRow w.heap.size #[.int .i64 x, .int .i64 y, .int .i64 z] = w6 at HB6 HR6 HW6 ⊢))
        refine ⟨⟨i + 1, b2, (x, y, z), o ++ [y], by omega, by go_num, rfl, Nat.le_trans HH.out.2.2 hbl, by rw [List.length_append, HRD.out.2.1]; rfl, HH.out.2.1, ?_, HB6.out, HR6.out, ?_⟩, by simp [intOf]; omega⟩
        · rw [HRD.out.1, HH.out.1, if_pos trivial, Option.map_map]
          congr 1
          funext x
          simp
        · rw [List.length_append, List.flatMap_append]
          exact HW6.out
    · obtain rfl : i = n := by omega
      have hRn : R = if cleanB b then some o else none := by
        rw [HR.out, HRD.out.1, Nat.sub_self]
        show (((some ([], b)).map fun x : List Int × List Bool => (o ++ x.1, x.2)).bind _) = _
        simp
      have HRN := Lib.hid hRn
      have HC := Lib.hid (fun W => rclean_any b W (by omega))
      have HOW := Lib.hid (own_base HW.out (b2 := w.heap.size) (Nat.le_succ _))
      have hcb : cleanB b = (b.all (! ·) && decide (b.length < 8)) := rfl
      obtain ⟨C, hC⟩ : ∃ C, (b.all (! ·) && decide (b.length < 8)) = C := ⟨_, rfl⟩
      rw [hcb, hC] at HRN
      rw [hC] at HC
      clear hRn hst hC hcb
      go_wp2_with fail
      refine (HC.out _).mono ?_
      rintro e w' ⟨rfl, rfl⟩
      cases C with
      | true =>
        have hRt : R = some o := by rw [HRN.out, if_pos rfl]
        go_wp2
        go_ret2
        subst hRt
        exact ⟨_, rfl, HOW.out, HO.out.1⟩
      | false =>
        have hRt : R = none := by rw [HRN.out]; rfl
        go_wp2
        go_ret2
        subst hRt
        exact ⟨_, rfl, World.ownsRow_nil _ _ _ _, HO.out.1⟩
theorem rread_any (B : ByteArray) (n : Int) (w : World) (hs : B.size ≤ 1000000) :
    Calls Try.prog 26 #[.string B, .int .i64 n] w fun e w' => ∃ A k c, e = .returned (.tuple #[.slice A k c, .bool (readB (unpack B.data.toList) n).isSome]) ∧ Comes w' 1 encI okI A k c ((readB (unpack B.data.toList) n).getD []) ∧ Below w.heap.size w w' := by
  have hok : ∀ x ∈ (readB (unpack B.data.toList) n).getD [], okI x := by
    intro x hx
    cases h : readB (unpack B.data.toList) n with
    | none => rw [h] at hx; simp at hx
    | some l =>
      rw [h] at hx
      exact (read_only B n l h).2.2.1 x hx
  by_cases h : n < 0 ∨ 10000 < n
  · refine (rread_far B n w h).mono ?_
    rintro e w' ⟨rfl, hb⟩
    have e1 : readB (unpack B.data.toList) n = none := by unfold readB; rw [if_pos h]
    rw [e1]
    exact ⟨_, _, _, rfl, Comes.nil _ _ _ _, hb⟩
  · obtain ⟨m, rfl⟩ : ∃ m : Nat, n = m := ⟨n.toNat, by omega⟩
    refine (rread_near B m w hs (by omega)).mono ?_
    rintro e w' ⟨v, rfl, hown, hb⟩
    obtain ⟨A, c, rfl, -, hc⟩ := Comes.of_own hown (fun _ => rfl) (by decide) hok
    exact ⟨_, _, _, rfl, hc, hb⟩
end Go.Proofs.Ytdnipfkpfdglnaa.StW
