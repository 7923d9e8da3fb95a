/-
  alluviumref05.Read: THE WALK.
-/
import Derived.Test.YtboomamnenonoaaDoorVaRefI
namespace Go.Proofs.YtboomamnenonoaaDoor.VaW
set_option linter.unusedVariables false
open Go.RowKit Go.Shelf BitsM BitsW VaM
set_option maxHeartbeats 1000000 in
theorem rread_far (B : ByteArray) (n : Int) (w : World) (hn : n < 0 ∨ 10000 < n) :
    Calls Tryd.prog 10 #[.string B, .int .i64 n] w fun e w' => e = .returned (.tuple #[.slice none 0 0, .bool false]) ∧ Below w.heap.size w w' := by
  go_enter Tryd.func10, Tryd.ntmps10
  by_cases h : n < 0
  · go_wp2
    go_ret2
    exact ⟨rfl, Below.refl _ _⟩
  · have h2 : 10000 < n := by omega
    go_wp2
    go_ret2
    exact ⟨rfl, Below.refl _ _⟩
theorem refV_split {b : List Bool} {s : Sv} (n : Nat) : readV b (n + 1) s = (if (refV b s).2.2 then (readV (refV b s).2.1 n (refV b s).1).map (fun x : List Nat × List Bool => ((refV b s).1.2.1 :: x.1, x.2)) else none) := by
  unfold refV
  cases h : getV b s with
  | none => show (match getV b s with | none => none | some (t, k) => _) = _; rw [h]; rfl
  | some x =>
    obtain ⟨t, k⟩ := x
    show (match getV b s with | none => none | some (t, k) => (readV (b.drop k) n (aftV s t)).map fun x : List Nat × List Bool => (t :: x.1, x.2)) = _
    rw [h]
    simp only [if_true, aftV_V]
theorem refV_ok {b : List Bool} {s : Sv} (hs : okV s) : okV (refV b s).1 ∧ (refV b s).2.1.length ≤ b.length ∧ ((refV b s).2.2 = true → (refV b s).1.1 = s.1 + 1) := by
  unfold refV
  cases h : getV b s with
  | none => exact ⟨hs, Nat.le_refl _, fun h => by cases h⟩
  | some x =>
    obtain ⟨t, k⟩ := x
    obtain ⟨h1, -⟩ := put_get b s t k hs h
    exact ⟨okV_aft hs h1, by show (b.drop k).length ≤ _; rw [List.length_drop]; omega, fun _ => aftV_N s t⟩
/-- 'append(s, x)' of one thing, onto a row of the call's own: all other blocks are as they were. -/
theorem wpList_append_keep {P : Program} {ops : Array Oper} {rest : List Oper} {o : Oper} {a : Act} {Q : Exit → Act → World → Prop} (hgd : o.guard = none) (s x : Operand) (t : TypeId)
    (ho : o.op = .call { callee := .builtin .append, args := #[s, x], argTypes := #[t, t] })
    (base : Nat) (e : TypeId) (z : Value) (size bytes : Nat) (ht : P.underlying t = some (.slice e)) (he : Elem P e z size bytes) (hzs : z.cells.size = size) (hsz : 0 < size)
    {v : Value} {n : Nat} {xs : List Value} (wr : World) (hown : wr.ownsRow base e size v n xs) (hs : a.eval s = v) (us : Array Value)
    (hx : a.eval x = .slice (some ⟨wr.heap.size, 0, none⟩) 1 1) (hl : us.size = size) (h1 : ∀ u ∈ us.toList, u.oneCell' = true)
    (hbytes : (n + 1) * bytes ≤ 140737488355328) (h63 : n + 1 ≤ 140737488355328) (hbase : base ≤ wr.heap.size)
    (h : ∀ v' w', w'.ownsRow base e size v' (n + 1) (xs ++ us.toList) → Below base wr w' → wr.heap.size < w'.heap.size → (∀ k, k < wr.heap.size → v.ownBlock ≠ some k → w'.heap[k]? = wr.heap[k]?) → wpList P ops Q rest (a.put o.dst v') w') :
    wpList P ops Q (o :: rest) a (wr.alloc (.cells us e (0, 0))) := by
  obtain ⟨i0, hi, hz0, hz1, hz2⟩ := info_parts he
  refine wpList_append_own (w := wr.alloc (.cells us e (0, 0))) hgd s x t ho base e i0 z size bytes ht hi hz0 hz1 hz2 hzs hsz v n xs hs (hown.alloc _) ⟨wr.heap.size, 0, none⟩ 1 1 us.toList hx (by simp [hl]) ?_ h1 ?_ hbytes ?_ ?_
  · intro j u hj
    have hp : (⟨wr.heap.size, 0, none⟩ : Addr).add j = ⟨wr.heap.size, j, none⟩ := by unfold Addr.add; split <;> simp_all
    rw [hp, World.cell?_alloc_mark]
    simpa using hj
  · unfold maxLen; omega
  · simp; omega
  · intro v' w' hown' hg _
    refine h v' w' hown' ?_ ?_ ?_
    · refine ((Below.refl base wr).alloc hbase _).grown hg (by simp; omega) ?_
      intro k hk
      rcases hown.2 with ⟨hv, _⟩ | ⟨g, cap, cur, hv, hgb, _⟩
      · rw [hv] at hk; cases hk
      · rw [hv] at hk; cases hk; exact hgb
    · have := hg.size; simp at this; omega
    · intro k hk hne
      exact (hg.block k (by simp; omega) (fun e => hne e.symm)).trans (Below.heap_alloc wr _ k hk)
theorem own_lt {w : World} {base n size : Nat} {e : TypeId} {v : Value} {xs : List Value} (h : w.ownsRow base e size v n xs) : ∀ k, v.ownBlock = some k → base ≤ k ∧ k < w.heap.size := by
  intro k hk
  rcases h.2 with ⟨hv, _⟩ | ⟨g, cap, cur, hv, hgb, hh, _⟩
  · rw [hv] at hk; cases hk
  · rw [hv] at hk; cases hk; exact ⟨hgb, (Array.getElem?_eq_some_iff.1 hh).1⟩
set_option maxRecDepth 20000 in
set_option maxHeartbeats 4000000 in
theorem rread_near (B : ByteArray) (n : Nat) (w : World) (hs : B.size ≤ 1000000) (hn : n ≤ 10000) :
    Calls Tryd.prog 10 #[.string B, .int .i64 (n : Int)] w fun e w' => ∃ v, e = .returned (.tuple #[v, .bool (readB (unpack B.data.toList) n).isSome]) ∧ w'.ownsRow w.heap.size 29 1 v ((readB (unpack B.data.toList) n).getD []).length (((readB (unpack B.data.toList) n).getD []).flatMap encU) ∧ Below w.heap.size w w' := by
  have HOF := Lib.hid (rof_any B w (by omega))
  obtain ⟨S, hS⟩ : ∃ S, unpack B.data.toList = S := ⟨_, rfl⟩
  have hSl : S.length = 8 * B.size := by rw [← hS, unpack_length]; simp
  rw [hS] at HOF ⊢
  obtain ⟨R, hR⟩ : ∃ R, readB S n = R := ⟨_, rfl⟩
  rw [hR]
  have HR : Hid (R = (readV S n v0).bind fun x : List Nat × List Bool => if (x.2.all (! ·) && decide (x.2.length < 8)) = true then some x.1 else none) := Lib.hid (by
    rw [← hR]; unfold readB; rw [if_neg (by omega), Int.toNat_natCast])
  have HSL := Lib.hid hSl
  clear hS hSl hR
  go_enter Tryd.func10, Tryd.ntmps10
  go_wp2_with fail
  refine HOF.out.mono ?_
  rintro e w' ⟨rfl, rfl⟩
  go_wp2_with fail
  refine (rbegin_any _).mono ?_
  rintro e wz ⟨rfl, hbz⟩
  have HB0 : Hid (Below w.heap.size w (wz.alloc (RvObj v0)) ∧ RvAt (wz.alloc (RvObj v0)) wz.heap.size v0) := Lib.hid (And.intro (hbz.alloc hbz.size _) (heap_alloc_new wz _))
  have HZW := Lib.hid hbz.size
  clear hbz
  obtain ⟨G, hG⟩ : ∃ G, wz.heap.size = G := ⟨_, rfl⟩
  go_wp2_with fail
  rw [hG] at HB0 HZW
  try rw [hG]
  go_loopw [6, 8, 9, 10, 11, 12] (fun v6 v8 v9 _ _ _ wr => ∃ (i : Nat) (b : List Bool) (s : Sv) (o : List Nat), i ≤ n ∧ v9 = .int .i64 i ∧ v6 = .string (bstr b) ∧ b.length ≤ 8 * B.size ∧ o.length = i ∧ okV s ∧ s.1 = i ∧ readV S n v0 = (readV b (n - i) s).map (fun x : List Nat × List Bool => (o ++ x.1, x.2)) ∧
      Below w.heap.size w wr ∧ RvAt wr G s ∧ wr.ownsRow (G + 1) 29 1 v8 o.length (o.flatMap encU)) (fun _ _ v9 _ _ _ _ => n - (intOf v9).toNat)
  case atStart => exact ⟨0, S, v0, [], Nat.zero_le _, rfl, rfl, by rw [HSL.out]; exact Nat.le_refl _, rfl, okV0, rfl, by simp, HB0.out.1, HB0.out.2, World.ownsRow_nil _ _ _ _⟩
  case round =>
    obtain ⟨i, b, s, o, hi, rfl, rfl, hbl, hol, hok, hN1, hrd, ho, hst, hown⟩ := hrel
    clear hG
    have hGw : w.heap.size ≤ G := HZW.out
    have HO := Lib.hid (And.intro ho hst)
    have HW := Lib.hid hown
    have HRD := Lib.hid (And.intro hrd (And.intro hol hok))
    have hwz : G + 1 ≤ wr.heap.size := (Array.getElem?_eq_some_iff.1 hst).1
    clear ho hown hrd hol hok
    by_cases hlt : i < n
    · have hsp := refV_split (b := b) (s := s) (n - (i + 1))
      rw [show n - (i + 1) + 1 = n - i by omega] at hsp
      have hgo := refV_ok (b := b) HRD.out.2.2
      have HG := Lib.hid (fun W => rget_any b s W HRD.out.2.2 (by omega) (by omega))
      obtain ⟨⟨⟨x, y, z, u⟩, b2, ok⟩, hGG⟩ : ∃ G, refV b s = G := ⟨_, rfl⟩
      rw [hGG] at hsp hgo HG
      obtain ⟨N, V, L, T⟩ := s
      have c0 := hst.c0
      have c1 := hst.c1
      have c2 := hst.c2
      have c3 := hst.c3
      simp only [] at c0 c1 c2 c3
      have HH := Lib.hid (And.intro hsp hgo)
      have i0 : (0 : Int) ≤ (i : Int) := by omega
      have i1 : (i : Int) < (n : Int) := by omega
      have HN1 := Lib.hid hN1
      clear hst hsp hgo hGG hN1
      go_wp2_with fail
      refine (HG.out _).mono ?_
      rintro e w3 ⟨rfl, hb3⟩
      obtain ⟨w4, hw4⟩ : ∃ w4, w3.alloc (.cells #[.int .i64 (x : Int), .int .u64 (y : Int), .int .i64 (z : Int), .int .i64 (u : Int)] 47 (0, 0)) = w4 := ⟨_, rfl⟩
      have hb34 : Below w3.heap.size w3 w4 := by rw [← hw4]; exact (Below.refl _ _).alloc (Nat.le_refl _) _
      have hb4 := later hb3 hb34
      have HB4 := Lib.hid (later HO.out.1 hb4)
      have hst4 : RvAt w4 G (N, V, L, T) := HO.out.2.later hb4
      have ht4 : RvAt w4 w3.heap.size (x, y, z, u) := by rw [← hw4]; exact heap_alloc_new w3 _
      have hown4 := own_later HW.out hb4
      have hlt9 : ∀ k, Value.ownBlock _ = some k → k < w3.heap.size := fun k hk => Nat.lt_of_lt_of_le (own_lt HW.out k hk).2 hb3.size
      have hwz4 : G + 1 ≤ w4.heap.size := Nat.le_trans hwz hb4.size
      clear hb3 hb34 hb4 c0 c1 c2 c3 HW
      cases ok with
      | false =>
        have hRn : R = none := by
          rw [HR.out, HRD.out.1, HH.out.1]; rfl
        subst hRn
        go_wp2
        go_ret2
        exact ⟨_, rfl, World.ownsRow_nil _ _ _ _, HB4.out⟩
      | true =>
        have k0 := ht4.c0
        have k1 := ht4.c1
        have k2 := ht4.c2
        have k3 := ht4.c3
        simp only [] at k0 k1 k2 k3
        have HT4 := Lib.hid ht4
        have HLT := Lib.hid hlt9
        have HS4 := Lib.hid hst4
        clear ht4 hst4
        go_wp2_with (first
          | (at_builtin; go_must (refine wpList_append_keep rfl _ _ 22 rfl (G + 1) 29 (.int .u64 0) 1 8 Tryd.underlying22 elemU64 rfl (by decide) w4 hown4 rfl _ rfl rfl (one1 rfl) (by have := HRD.out.2.1; omega) (by have := HRD.out.2.1; omega) hwz4 ?_)
             intro v' w' hown' hb' hz' hkp'
             have hst5 : RvAt w' G (N, V, L, T) := (hb'.block _ (Nat.lt_succ_self _)).trans HS4.out
             have ht5 : RvAt w' w3.heap.size (x, y, z, u) := (hkp' _ (Array.getElem?_eq_some_iff.1 HT4.out).1 (fun e => by have := HLT.out _ e; omega)).trans HT4.out
             have j0 := ht5.c0
             have j1 := ht5.c1
             have j2 := ht5.c2
             have j3 := ht5.c3
             have HB5 := Lib.hid (HB4.out.trans (hb'.mono (by omega)))
             have HW5 := Lib.hid hown'
             simp only [] at j0 j1 j2 j3
             clear hown4 hown' hb' hz' hkp' k0 k1 k2 k3 ht5)
          | (refine wpList_store_row rfl 47 _ _ rfl G #[.int .i64 (x : Int), .int .u64 (y : Int), .int .i64 (z : Int), .int .i64 (u : Int)] rfl rfl 47 _ hst5 info_rv rfl (by simp [Value.oneCell']) ?_
             have HB6 := Lib.hid (below_setRow HB5.out hGw #[.int .i64 (x : Int), .int .u64 (y : Int), .int .i64 (z : Int), .int .i64 (u : Int)])
             have HR6 : Hid (RvAt (w'.setRow G #[.int .i64 (x : Int), .int .u64 (y : Int), .int .i64 (z : Int), .int .i64 (u : Int)]) G (x, y, z, u)) := Lib.hid (setRow_heap _ _ _ _ _ _ hst5)
             have hown6 := own_but (w' := w'.setRow G #[.int .i64 (x : Int), .int .u64 (y : Int), .int .i64 (z : Int), .int .i64 (u : Int)]) HW5.out (Nat.lt_succ_self _) (by simp) (fun j _ hj => setRow_other _ _ _ _ hj)
             have HW6 := Lib.hid hown6
             clear hown6 hst5 j0 j1 j2 j3
             generalize w'.setRow G #[.int .i64 (x : Int), .int .u64 (y : Int), .int .i64 (z : Int), .int .i64 (u : Int)] = w6 at HB6 HR6 HW6 ⊢))
        refine ⟨⟨i + 1, b2, (x, y, z, u), o ++ [y], by omega, by go_num, rfl, Nat.le_trans HH.out.2.2.1 hbl, by rw [List.length_append, HRD.out.2.1]; rfl, HH.out.2.1, by have h := HH.out.2.2.2 trivial; have h2 := HN1.out; show x = i + 1; have h : x = N + 1 := h; have h2 : N = i := h2; omega, ?_, HB6.out, HR6.out, ?_⟩, by simp [intOf]; omega⟩
        · rw [HRD.out.1, HH.out.1, if_pos trivial, Option.map_map]
          congr 1
          funext x
          simp
        · rw [List.length_append, List.flatMap_append]
          exact HW6.out
    · obtain rfl : i = n := by omega
      have hRn : R = if (b.all (! ·) && decide (b.length < 8)) = true then some o else none := by
        rw [HR.out, HRD.out.1, Nat.sub_self]
        show (((some ([], b)).map fun x : List Nat × List Bool => (o ++ x.1, x.2)).bind _) = _
        simp
      have HRN := Lib.hid hRn
      have HC := Lib.hid (fun W => rclean_any b W (by omega))
      have HOW := Lib.hid (own_base HW.out (b2 := w.heap.size) (by omega))
      obtain ⟨C, hC⟩ : ∃ C, (b.all (! ·) && decide (b.length < 8)) = C := ⟨_, rfl⟩
      rw [hC] at HRN
      rw [hC] at HC
      clear hRn hst hC
      go_wp2_with fail
      refine (HC.out _).mono ?_
      rintro e w' ⟨rfl, rfl⟩
      cases C with
      | true =>
        have hRt : R = some o := by rw [HRN.out, if_pos rfl]
        go_wp2
        go_ret2
        subst hRt
        exact ⟨_, rfl, HOW.out, HO.out.1⟩
      | false =>
        have hRt : R = none := by rw [HRN.out]; rfl
        go_wp2
        go_ret2
        subst hRt
        exact ⟨_, rfl, World.ownsRow_nil _ _ _ _, HO.out.1⟩
theorem rread_any (B : ByteArray) (n : Int) (w : World) (hs : B.size ≤ 1000000) :
    Calls Tryd.prog 10 #[.string B, .int .i64 n] w fun e w' => ∃ A k c, e = .returned (.tuple #[.slice A k c, .bool (readB (unpack B.data.toList) n).isSome]) ∧ Comes w' 1 encU okU A k c ((readB (unpack B.data.toList) n).getD []) ∧ Below w.heap.size w w' := by
  have hok : ∀ x ∈ (readB (unpack B.data.toList) n).getD [], okU x := by
    intro x hx
    cases h : readB (unpack B.data.toList) n with
    | none => rw [h] at hx; simp at hx
    | some l =>
      rw [h] at hx
      exact (read_only B n l h).2.2.1 x hx
  by_cases h : n < 0 ∨ 10000 < n
  · refine (rread_far B n w h).mono ?_
    rintro e w' ⟨rfl, hb⟩
    have e1 : readB (unpack B.data.toList) n = none := by unfold readB; rw [if_pos h]
    rw [e1]
    exact ⟨_, _, _, rfl, Comes.nil _ _ _ _, hb⟩
  · obtain ⟨m, rfl⟩ : ∃ m : Nat, n = m := ⟨n.toNat, by omega⟩
    refine (rread_near B m w hs (by omega)).mono ?_
    rintro e w' ⟨v, rfl, hown, hb⟩
    obtain ⟨A, c, rfl, -, hc⟩ := Comes.of_own hown (fun _ => rfl) (by decide) hok
    exact ⟨_, _, _, rfl, hc, hb⟩
end Go.Proofs.YtboomamnenonoaaDoor.VaW
