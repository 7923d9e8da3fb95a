/-
  chunk.putBits: THE WALK.
  label.Key: THE WALK.
  alluviumref03.Small, Text; alluviumref06.Key: THE WALKS.
  alluviumref03.Wide, Zig: THE WALKS.
  chunk.forms, of: THE WALKS.
-/
import Derived.Test.YtdidengokijcjaaDoorJ13
import Derived.Test.YtdidengokijcjaaDoorJ08
import Derived.Test.YtdidengokijcjaaDoorJ16
import Derived.Test.YtdidengokijcjaaDoorJ12
import Derived.Deep.RegionHeld3
import Derived.Laws.EntriesVeiled
/-
  chunk.putBits: THE WALK.
-/
namespace Go.Proofs.YtdidengokijcjaaDoor.ChW
set_option linter.unusedVariables false
open Go.RowKit FrM FrW StM ChM LabW BitsM BitsW
theorem own_same {w w' : World} {base n size : Nat} {e : TypeId} {v : Value} {xs : List Value} (h : w.ownsRow base e size v n xs) (hk : ∀ k, v.ownBlock = some k → w'.heap[k]? = w.heap[k]?) : w'.ownsRow base e size v n xs := by
  refine ⟨h.1, ?_⟩
  rcases h.2 with h2 | ⟨g, cap, cur, hv, hgb, hh, hr⟩
  · exact .inl h2
  · exact .inr ⟨g, cap, cur, hv, hgb, (hk g (by rw [hv]; rfl)).trans hh, hr⟩
theorem own_type {w : World} {b1 b2 n1 n2 s1 s2 : Nat} {e1 e2 : TypeId} {v1 v2 : Value} {x1 x2 : List Value} (h1 : w.ownsRow b1 e1 s1 v1 n1 x1) (h2 : w.ownsRow b2 e2 s2 v2 n2 x2) (he : e1 ≠ e2) : ∀ k, v1.ownBlock = some k → v2.ownBlock ≠ some k := by
  intro k hk hk2
  rcases h1.2 with ⟨hv, _⟩ | ⟨g, cap, cur, hv, hgb, hh, _⟩
  · rw [hv] at hk; cases hk
  rcases h2.2 with ⟨hv2, _⟩ | ⟨g2, cap2, cur2, hv2, hgb2, hh2, _⟩
  · rw [hv2] at hk2; cases hk2
  rw [hv] at hk
  rw [hv2] at hk2
  injection hk with hk
  injection hk2 with hk2
  subst hk hk2
  rw [hh] at hh2
  injection hh2 with hh2
  injection hh2 with _ h3
  exact he h3
theorem own_lt' {w : World} {base n size : Nat} {e : TypeId} {v : Value} {xs : List Value} (h : w.ownsRow base e size v n xs) : ∀ k, v.ownBlock = some k → base ≤ k ∧ k < w.heap.size := by
  intro k hk
  rcases h.2 with ⟨hv, _⟩ | ⟨g, cap, cur, hv, hgb, hh, _⟩
  · rw [hv] at hk; cases hk
  · rw [hv] at hk; cases hk; exact ⟨hgb, (Array.getElem?_eq_some_iff.1 hh).1⟩
/-- 'append(s, x)' of one thing, onto a row of the call's own: all other blocks are as they were. -/
theorem wpList_append_keepC {P : Program} {ops : Array Oper} {rest : List Oper} {o : Oper} {a : Act} {Q : Exit → Act → World → Prop} (hgd : o.guard = none) (s x : Operand) (t : TypeId)
    (ho : o.op = .call { callee := .builtin .append, args := #[s, x], argTypes := #[t, t] })
    (base : Nat) (e : TypeId) (z : Value) (size bytes : Nat) (ht : P.underlying t = some (.slice e)) (he : Elem P e z size bytes) (hzs : z.cells.size = size) (hsz : 0 < size)
    {v : Value} {n : Nat} {xs : List Value} (wr : World) (hown : wr.ownsRow base e size v n xs) (hs : a.eval s = v) (us : Array Value) {g : Nat} (hgg : wr.heap.size = g)
    (hx : a.eval x = .slice (some ⟨g, 0, none⟩) 1 1) (hl : us.size = size) (h1 : ∀ u ∈ us.toList, u.oneCell' = true)
    (hbytes : (n + 1) * bytes ≤ 140737488355328) (h63 : n + 1 ≤ 140737488355328) (hbase : base ≤ wr.heap.size)
    (h : ∀ v' w', w'.ownsRow base e size v' (n + 1) (xs ++ us.toList) → Below base wr w' → wr.heap.size < w'.heap.size → (∀ k, k < wr.heap.size → v.ownBlock ≠ some k → w'.heap[k]? = wr.heap[k]?) → wpList P ops Q rest (a.put o.dst v') w') :
    wpList P ops Q (o :: rest) a (wr.alloc (.cells us e (0, 0))) := by
  subst hgg
  obtain ⟨i0, hi, hz0, hz1, hz2⟩ := info_parts he
  refine wpList_append_own (w := wr.alloc (.cells us e (0, 0))) hgd s x t ho base e i0 z size bytes ht hi hz0 hz1 hz2 hzs hsz v n xs hs (hown.alloc _) ⟨wr.heap.size, 0, none⟩ 1 1 us.toList hx (by simp [hl]) ?_ h1 ?_ hbytes ?_ ?_
  · intro j u hj
    have hp : (⟨wr.heap.size, 0, none⟩ : Addr).add j = ⟨wr.heap.size, j, none⟩ := by unfold Addr.add; split <;> simp_all
    rw [hp, World.cell?_alloc_mark]
    simpa using hj
  · unfold maxLen; omega
  · simp; omega
  · intro v' w' hown' hg _
    refine h v' w' hown' ?_ ?_ ?_
    · refine ((Below.refl base wr).alloc hbase _).grown hg (by simp; omega) ?_
      intro k hk
      rcases hown.2 with ⟨hv, _⟩ | ⟨g, cap, cur, hv, hgb, _⟩
      · rw [hv] at hk; cases hk
      · rw [hv] at hk; cases hk; exact hgb
    · have := hg.size; simp at this; omega
    · intro k hk hne
      exact (hg.block k (by simp; omega) (fun e => hne e.symm)).trans (Below.heap_alloc wr _ k hk)
theorem times_snoc (l : List Sm) (k : Nat) (h : k < l.length) : times (l.take (k + 1)) = times (l.take k) ++ [l[k].1] := by
  unfold times; rw [List.take_succ_eq_append_getElem h, List.map_append]; rfl
theorem vals_snoc (l : List Sm) (k : Nat) (h : k < l.length) : vals (l.take (k + 1)) = vals (l.take k) ++ [l[k].2.toNat] := by
  unfold vals; rw [List.take_succ_eq_append_getElem h, List.map_append]; rfl
theorem times_len (l : List Sm) : (times l).length = l.length := List.length_map ..
theorem vals_len (l : List Sm) : (vals l).length = l.length := List.length_map ..
set_option maxRecDepth 20000 in
set_option maxHeartbeats 4000000 in
theorem putBits_any (w0 w : World) (b : Nat) (A : Option Addr) (n c : Nat) (l : List Sm) (hl : Comes w0 2 encS okS A n c l) (hn : n ≤ 1000) (h0 : Below w0.heap.size w0 w) (hbd : Bd w0.heap.size b [] w) (hT : Tab w0) :
    Calls Tryd.prog 40 #[.pointer (some ⟨b, 0, none⟩), .slice A n c] w fun e w' => e = .returned (.tuple #[]) ∧ Bd w0.heap.size b (small l.length ++ (text (tB l) ++ text (vB l))) w' ∧ Below w0.heap.size w0 w' := by
  have HL := Lib.hid hl
  have hcap : c ≤ 9223372036854775807 := hl.cap
  have hle := hl.le
  have hok : okMs l := fun x hx => ok_of (hl.ok x hx)
  have HOK := Lib.hid hok
  have H0 := Lib.hid (And.intro h0 (And.intro hbd hT))
  clear hl h0 hbd hT hok
  go_enter Tryd.func40, Tryd.ntmps40
  go_wp2_with fail
  go_loopw [4, 5, 10] (fun v4 v5 v10 wr => ∃ (k : Nat), k ≤ n ∧ v10 = .int .i64 k ∧ wr.ownsRow w.heap.size 2 1 v4 k ((times (l.take k)).flatMap StW.encI) ∧ wr.ownsRow w.heap.size 35 1 v5 k ((vals (l.take k)).flatMap VaW.encU) ∧ Below w.heap.size w wr) (fun _ _ v10 _ => n - (intOf v10).toNat)
  case atStart => exact ⟨0, Nat.zero_le _, rfl, World.ownsRow_nil _ _ _ _, World.ownsRow_nil _ _ _ _, Below.refl _ _⟩
  case round =>
    obtain ⟨k, hk, rfl, hown4, hown5, ho⟩ := hrel
    have hln := HL.out.len
    by_cases hlt : k < n
    · have hkl : k < l.length := by omega
      obtain ⟨q, o, rfl, hcs⟩ := S_cells HL.out.lies hkl
      obtain ⟨hc0, hc1⟩ := hcs _ (H0.out.1.trans (ho.mono H0.out.1.size))
      have ht := times_snoc l k hkl
      have hv := vals_snoc l k hkl
      have hok := HL.out.ok _ (List.getElem_mem hkl)
      generalize l[k] = x at *
      obtain ⟨x1, x2⟩ := x
      obtain ⟨hx1, hx2, hx3, hx4⟩ := hok
      simp only [] at hc0 hc1 ht hv hx3
      obtain ⟨v2, rfl⟩ : ∃ v : Nat, x2 = (v : Int) := ⟨x2.toNat, by omega⟩
      rw [Int.toNat_natCast] at hv
      have hbz := ho.size
      have hoA : Below w.heap.size w (wr.alloc (.cells #[.int .i64 x1, .int .u64 (v2 : Int)] 37 (0, 0))) := ho.alloc ho.size _
      have hA : (wr.alloc (.cells #[.int .i64 x1, .int .u64 (v2 : Int)] 37 (0, 0))).heap[wr.heap.size]? = some (.cells #[.int .i64 x1, .int .u64 (v2 : Int)] 37 (0, 0)) := heap_alloc_new wr _
      have hownA4 := hown4.alloc (.cells #[.int .i64 x1, .int .u64 (v2 : Int)] 37 (0, 0))
      have hownA5 := hown5.alloc (.cells #[.int .i64 x1, .int .u64 (v2 : Int)] 37 (0, 0))
      have hlt4 : ∀ j, Value.ownBlock _ = some j → j ≠ wr.heap.size := fun j hj => Nat.ne_of_lt (own_lt' hown4 j hj).2
      have hzA : (wr.alloc (.cells #[.int .i64 x1, .int .u64 (v2 : Int)] 37 (0, 0))).heap.size = wr.heap.size + 1 := by simp
      have HA := Lib.hid (And.intro hoA (And.intro hA (And.intro hownA5 (And.intro hlt4 (own_type hownA4 hownA5 (by decide))))))
      have HTV := Lib.hid (And.intro ht hv)
      have HZ := Lib.hid (And.intro hzA hbz)
      clear ho hln hcs hown4 hown5 hoA hA hownA5 hlt4 ht hv hzA hx1 hx2 hx3 hx4
      go_wp2_with (first
        | (at_builtin; (refine wpList_append_keepC rfl _ _ 52 rfl w.heap.size 2 (.int .i64 0) 1 8 Tryd.underlying52 StW.elemI64 rfl (by decide) (wr.alloc (.cells #[.int .i64 x1, .int .u64 (v2 : Int)] 37 (0, 0))) hownA4 rfl _ HZ.out.1 rfl rfl (one1 rfl) (by omega) (by omega) (by rw [HZ.out.1]; have := HZ.out.2; omega) ?_)
           intro v4' w4' hown4' hb4' hz4' hkp4
           have hA4 : w4'.heap[wr.heap.size]? = some (.cells #[.int .i64 x1, .int .u64 (v2 : Int)] 37 (0, 0)) := (hkp4 _ (by rw [HZ.out.1]; omega) (fun e => HA.out.2.2.2.1 _ e rfl)).trans HA.out.2.1
           have d1 : w4'.cell? ⟨wr.heap.size, 1, none⟩ = some (.int .u64 (v2 : Int)) := by rw [cell_of_row _ _ _ _ _ _ hA4]; rfl
           have hown5B := own_same (w' := w4') HA.out.2.2.1 (fun j hj => hkp4 j (own_lt' HA.out.2.2.1 j hj).2 (fun e => HA.out.2.2.2.2 j e hj))
           have HB4 := Lib.hid (HA.out.1.trans hb4')
           have HO4 := Lib.hid hown4'
           have HD := Lib.hid (own_type hown5B hown4' (by decide))
           clear hownA4 hown4' hb4' hz4' hkp4 hA4)
        | (at_builtin; (refine wpList_append_keepC rfl _ _ 53 rfl w.heap.size 35 (.int .u64 0) 1 8 Tryd.underlying53 VaW.elemU64 rfl (by decide) w4' hown5B rfl _ rfl rfl rfl (one1 rfl) (by omega) (by omega) HB4.out.size ?_)
           intro v5' w5' hown5' hb5' hz5' hkp5
           have hown4C := own_same (w' := w5') HO4.out (fun j hj => hkp5 j (own_lt' HO4.out j hj).2 (fun e => HD.out j e hj))
           have HB5 := Lib.hid (HB4.out.trans hb5')
           have HO5 := Lib.hid (And.intro hown4C hown5')
           clear hown5B hown5' hb5' hz5' hkp5 hown4C HO4 d1))
      go_roundw
      case rel =>
        refine ⟨k + 1, by omega, by go_num, ?_, ?_, HB5.out⟩
        · rw [HTV.out.1, List.flatMap_append]; exact HO5.out.1
        · rw [HTV.out.2, List.flatMap_append]; exact HO5.out.2
      case measure => simp [intOf]; omega
    · have hkn : k = n := by omega
      subst hkn
      rw [List.take_of_length_le (by omega)] at hown4 hown5
      obtain ⟨A4, c4, rfl, -, hc4⟩ := Comes.of_own hown4 (fun _ => rfl) (by decide) (times_ok HOK.out)
      obtain ⟨A5, c5, rfl, -, hc5⟩ := Comes.of_own hown5 (fun _ => rfl) (by decide) (vals_ok HOK.out)
      have hoT := H0.out.1.trans (ho.mono H0.out.1.size)
      have hb1 := bitsAll_len StW.s0 (times l)
      have hb2 := VaM.bitsV_len VaM.v0 (vals l)
      rw [times_len] at hb1
      rw [vals_len] at hb2
      have ht1 : (tB l).length ≤ 8501 := by unfold tB; have := pack_le (bitsAll StW.s0 (times l)); omega
      have ht2 : (vB l).length ≤ 9751 := by unfold vB; have := pack_le (VaM.bitsV VaM.v0 (vals l)); omega
      have K1 : Hid (∀ W, Calls Tryd.prog 55 #[.int .u64 (k : Int)] W fun e w' => e = .returned (.string (bs (small l.length))) ∧ Below W.heap.size W w') := Lib.hid (fun W => by rw [hln]; exact small_any k W (by omega))
      have K2 : Hid (∀ W, Below wr.heap.size wr W → Calls Tryd.prog 61 #[.slice A4 k c4] W fun e w' => e = .returned (.string (bs (tB l))) ∧ Below W.heap.size W w') := Lib.hid (fun W h => StW.all_any A4 k c4 (times l) W (hc4.later h) (by omega))
      have K3 : Hid (∀ W, Calls Tryd.prog 60 #[.string (bs (tB l))] W fun e w' => e = .returned (.string (bs (text (tB l)))) ∧ Below W.heap.size W w') := Lib.hid (fun W => text_any (tB l) W (by omega))
      have K4 : Hid (∀ W, Below wr.heap.size wr W → Calls Tryd.prog 62 #[.slice A5 k c5] W fun e w' => e = .returned (.string (bs (vB l))) ∧ Below W.heap.size W w') := Lib.hid (fun W h => VaW.all_any A5 k c5 (vals l) W (hc5.later h) (by omega) (H0.out.2.2.later (hoT.trans (h.mono hoT.size))))
      have K5 : Hid (∀ W, Calls Tryd.prog 60 #[.string (bs (vB l))] W fun e w' => e = .returned (.string (bs (text (vB l)))) ∧ Below W.heap.size W w') := Lib.hid (fun W => text_any (vB l) W (by omega))
      have hs1 : (small l.length).length ≤ 10 := sm_len 9 l.length
      have hs2 := text_len (tB l)
      have hs3 := text_len (vB l)
      have hs4 : (small (tB l).length).length ≤ 10 := sm_len 9 _
      have hs5 : (small (vB l).length).length ≤ 10 := sm_len 9 _
      have hz1 := bs_size (small l.length)
      have hz2 := bs_size (text (tB l))
      have hz3 := bs_size (text (vB l))
      have ha1 : ∀ W : World, (Op.stringOp .add (bs (small l.length)) (bs (text (tB l)))).run Tryd.prog W = .ok (.string (bs (small l.length ++ text (tB l)))) W := fun W => by rw [← bs_append]; exact run_string_add_sum W _ _ (by omega)
      have ha2 : ∀ W : World, (Op.stringOp .add (bs (small l.length ++ text (tB l))) (bs (text (vB l)))).run Tryd.prog W = .ok (.string (bs (small l.length ++ (text (tB l) ++ text (vB l))))) W := fun W => by
        rw [← List.append_assoc, ← bs_append (small l.length ++ text (tB l)), ← bs_append]
        exact run_string_add_sum W _ _ (by rw [ByteArray.size_append]; omega)
      have CW := Lib.hid (fun (W : World) (h : Below wr.heap.size wr W) => writes_any w0.heap.size b [] (small l.length ++ (text (tB l) ++ text (vB l))) W ((H0.out.2.1.later ho).later h) (by rw [List.length_append, List.length_append, List.length_nil]; omega) (Nat.le_trans hoT.size h.size))
      rw [List.nil_append] at CW
      have HT := Lib.hid hoT
      obtain ⟨F, hF⟩ : ∃ F, small l.length ++ (text (tB l) ++ text (vB l)) = F := ⟨_, rfl⟩
      have HFF := Lib.hid hF
      rw [hF] at ha2 CW
      obtain ⟨M0, hM0⟩ : ∃ M, bs (small l.length) = M := ⟨_, rfl⟩
      obtain ⟨M1, hM1⟩ : ∃ M, bs (tB l) = M := ⟨_, rfl⟩
      obtain ⟨M2, hM2⟩ : ∃ M, bs (text (tB l)) = M := ⟨_, rfl⟩
      obtain ⟨M3, hM3⟩ : ∃ M, bs (vB l) = M := ⟨_, rfl⟩
      obtain ⟨M4, hM4⟩ : ∃ M, bs (text (vB l)) = M := ⟨_, rfl⟩
      obtain ⟨M5, hM5⟩ : ∃ M, bs (small l.length ++ text (tB l)) = M := ⟨_, rfl⟩
      obtain ⟨M6, hM6⟩ : ∃ M, bs F = M := ⟨_, rfl⟩
      rw [hM0] at K1 ha1
      rw [hM1] at K2 K3
      rw [hM2] at K3 ha1
      rw [hM3] at K4 K5
      rw [hM4] at K5 ha2
      rw [hM5] at ha1 ha2
      rw [hM6] at ha2 CW
      clear hM0 hM1 hM2 hM3 hM4 hM5 hM6 hF hz1 hz2 hz3 hs1 hs2 hs3 hs4 hs5 ht1 ht2 hb1 hb2 hoT hc4 hc5 hown4 hown5 ho
      go_wp2_with fail
      refine (K1.out _).mono ?_
      rintro e w1 ⟨rfl, hb1⟩
      have HB := Lib.hid hb1
      clear hb1
      go_wp2_with fail
      refine (K2.out _ HB.out).mono ?_
      rintro e w2 ⟨rfl, hb1⟩
      replace HB := Lib.hid (later HB.out hb1)
      clear hb1
      go_wp2_with fail
      refine (K3.out _).mono ?_
      rintro e w3 ⟨rfl, hb1⟩
      replace HB := Lib.hid (later HB.out hb1)
      clear hb1
      go_wp2_with fail
      refine (K4.out _ HB.out).mono ?_
      rintro e w4 ⟨rfl, hb1⟩
      replace HB := Lib.hid (later HB.out hb1)
      clear hb1
      go_wp2_with fail
      refine (K5.out _).mono ?_
      rintro e w5 ⟨rfl, hb1⟩
      replace HB := Lib.hid (later HB.out hb1)
      clear hb1
      go_wp2_with fail
      refine (CW.out _ HB.out).mono ?_
      rintro e w6 ⟨rfl, hbd6, hb6, hk6⟩
      have H6 := Lib.hid (And.intro hbd6 ((HT.out.trans (HB.out.mono HT.out.size)).trans hb6))
      clear hbd6 hb6 hk6
      go_wp2_with fail
      go_end0
      exact ⟨rfl, by rw [HFF.out]; exact H6.out.1, H6.out.2⟩
end Go.Proofs.YtdidengokijcjaaDoor.ChW
/-
  label.Key: THE WALK.
-/
namespace Go.Proofs.YtdidengokijcjaaDoor.FrW
set_option linter.unusedVariables false
open Go.RowKit FrM LabM LbM LabW
def shortL (l : List Lab) : Prop := ∀ x ∈ l, x.1.size ≤ 300 ∧ x.2.size ≤ 300
theorem keyL_at (l : List Lab) (k : Nat) (h : k < l.length) : keyL (l.drop k) = text l[k].1.data.toList ++ (text l[k].2.data.toList ++ keyL (l.drop (k + 1))) := by
  rw [List.drop_eq_getElem_cons h, keyL]
end Go.Proofs.YtdidengokijcjaaDoor.FrW
/-
  alluviumref03.Small, Text; alluviumref06.Key: THE WALKS.
-/
namespace Go.Proofs.YtdidengokijcjaaDoor.FrW
set_option linter.unusedVariables false
open Go.RowKit FrM LabM LbM LabW
set_option maxRecDepth 20000 in
set_option maxHeartbeats 2000000 in
theorem rsmall_any (n : Nat) (w : World) (hn : n < 18446744073709551616) :
    Calls Tryd.prog 20 #[.int .u64 (n : Int)] w fun e w' => e = .returned (.string (bs (small n))) ∧ Below w.heap.size w w' := by
  have HN := Lib.hid hn
  obtain ⟨S, hS⟩ : ∃ S, small n = S := ⟨_, rfl⟩
  rw [hS]
  have HS := Lib.hid hS
  clear hS
  go_enter Tryd.func20, Tryd.ntmps20
  go_wp2_with fail
  go_loopw [0, 3] (fun v0 v3 wr => ∃ (i m : Nat) (pre : List UInt8), i ≤ 9 ∧ v0 = .int .u64 m ∧ m < 2 * 128 ^ (9 - i) ∧ m < 18446744073709551616 ∧ pre.length = i ∧ S = pre ++ sm (9 - i) m ∧ wr.ownsRow w.heap.size 5 1 v3 i (byteCells pre) ∧ Below w.heap.size w wr) (fun v0 _ _ => (intOf v0).toNat)
  case atStart => exact ⟨0, n, [], by omega, rfl, by rw [show 9 - 0 = 9 from rfl, num_two]; exact HN.out, HN.out, rfl, HS.out.symm, World.ownsRow_nil _ _ _ _, Below.refl _ _⟩
  case round =>
    obtain ⟨i, m, pre, hi, rfl, hm, hm64, hpl, hpre, hown, hb⟩ := hrel
    have HB := Lib.hid (And.intro hb (And.intro hpl hpre))
    have hbz := hb.size
    have HM := Lib.hid hm
    clear hb hpl hpre hm
    by_cases hlt : m < 128
    · have hS2 : S = pre ++ [UInt8.ofNat m] := by rw [HB.out.2.2, sm_last hlt]
      have h256 : ((m : Int)) % 256 = m := by omega
      have HCV := Lib.hid (fun (v' : Value) (w' : World) (hown' : w'.ownsRow w.heap.size 5 1 v' (i + 1) (byteCells pre ++ [.int .u8 (m : Int)])) => (show (convert 46 9 v').run Tryd.prog w' = .ok (.string ⟨S.toArray⟩) w' from by
        refine conv_owned (P := Tryd.prog) (src := 46) (dst := 9) Tryd.underlying46 Tryd.underlying5 Tryd.underlying9 (base := w.heap.size) (n := i + 1) ?_
        rw [hS2, byteCells_append]
        have e2 : byteCells [UInt8.ofNat m] = [Value.int .u8 (m : Int)] := by simp only [byteCells, List.map_cons, List.map_nil]; rw [byte_nat _ (by omega)]
        rw [e2]; exact hown'))
      clear hS2
      go_wp2_with (at_builtin; go_must (refine wpList_append_one rfl _ _ 46 rfl w.heap.size 5 (.int .u8 0) 1 1 Tryd.underlying46 elemU8 rfl (by decide) wr hown rfl _ rfl rfl (one1 rfl) (by omega) (by omega) hbz ?_); intro v' w' hown' hb' hz'; have hconv := HCV.out v' w' hown'; clear hown hown')
      go_ret
      exact ⟨rfl, HB.out.1.trans hb'⟩
    · have hi8 : i < 9 := by
        have h := HM.out
        by_cases h9 : i = 9
        · subst h9; have : m < 2 := by simpa using h
          omega
        · omega
      have hdiv : (m : Int) / 128 = ((m / 128 : Nat) : Int) := by omega
      obtain ⟨y, hy⟩ : ∃ y, UInt8.ofNat (m % 128 + 128) = y := ⟨_, rfl⟩
      have hsm : sm (9 - i) m = y :: sm (9 - (i + 1)) (m / 128) := by
        rw [show 9 - i = (9 - (i + 1)) + 1 by omega, sm_more hlt, hy]
      have hm2 : m / 128 < 2 * 128 ^ (9 - (i + 1)) := by
        have h := HM.out
        rw [show 9 - i = (9 - (i + 1)) + 1 by omega, Nat.pow_succ] at h
        rw [Nat.div_lt_iff_lt_mul (by omega)]; omega
      have hyn : ((y.toNat : Nat) : Int) = (m : Int) % 128 + 128 := by rw [← hy, byte_nat _ (by omega)]; omega
      obtain ⟨m2, hmm⟩ : ∃ m2, m / 128 = m2 := ⟨_, rfl⟩
      have hlt2 : m2 < m := by omega
      rw [hmm] at hdiv hsm hm2
      have HR := Lib.hid (And.intro hsm (And.intro hm2 (And.intro hlt2 hyn)))
      clear hy hsm hm2 hmm hlt2 hyn
      go_wp2_with (at_builtin; go_must (refine wpList_append_one rfl _ _ 46 rfl w.heap.size 5 (.int .u8 0) 1 1 Tryd.underlying46 elemU8 rfl (by decide) wr hown rfl _ rfl rfl (one1 rfl) (by omega) (by omega) hbz ?_); intro v' w' hown' hb' hz'; clear hown)
      go_roundw
      case rel =>
        refine ⟨i + 1, m2, pre ++ [y], by omega, by first | rfl | (rw [hdiv]), HR.out.2.1, by have := HR.out.2.2.1; omega, by rw [List.length_append, HB.out.2.1]; rfl, by rw [HB.out.2.2, HR.out.1]; simp, ?_, HB.out.1.trans hb'⟩
        rw [byteCells_append]
        have e2 : byteCells [y] = [Value.int .u8 ((m : Int) % 128 + 128)] := by simp only [byteCells, List.map_cons, List.map_nil]; rw [HR.out.2.2.2]
        rw [e2]; exact hown'
      case measure => have := HR.out.2.2.1; simp [intOf]; omega
set_option maxHeartbeats 400000 in
theorem rtext_any (l : List UInt8) (w : World) (hl : l.length ≤ 1099511627776) :
    Calls Tryd.prog 23 #[.string (bs l)] w fun e w' => e = .returned (.string (bs (text l))) ∧ Below w.heap.size w w' := by
  have hz := bs_size l
  have hsm := sm_len 9 l.length
  have hz2 : (bs (small l.length)).size ≤ 10 := by rw [bs_size]; exact hsm
  have HT : Hid (bs (small l.length) ++ bs l = bs (text l)) := Lib.hid (bs_append _ _)
  have HS : Hid (∀ W, Calls Tryd.prog 20 #[.int .u64 (l.length : Int)] W fun e w' => e = .returned (.string (bs (small l.length))) ∧ Below W.heap.size W w') := Lib.hid (fun W => rsmall_any l.length W (by omega))
  obtain ⟨S, hS⟩ : ∃ S, bs (small l.length) = S := ⟨_, rfl⟩
  obtain ⟨X, hX⟩ : ∃ X, bs l = X := ⟨_, rfl⟩
  obtain ⟨n, hn⟩ : ∃ n, l.length = n := ⟨_, rfl⟩
  rw [hS, hX] at HT
  rw [hS] at HS hz2
  rw [hn] at HS hz hl
  rw [hX] at hz ⊢
  clear hS hX hsm hn
  go_enter Tryd.func23, Tryd.ntmps23
  go_wp2_with fail
  refine (HS.out _).mono ?_
  rintro e w1 ⟨rfl, hb1⟩
  go_wp2
  go_ret
  exact ⟨by rw [← HT.out]; rfl, hb1⟩
end Go.Proofs.YtdidengokijcjaaDoor.FrW
/-
  alluviumref03.Wide, Zig: THE WALKS.
-/
namespace Go.Proofs.YtdidengokijcjaaDoor.ChW
set_option linter.unusedVariables false
open Go.RowKit FrM FrW StM ChM LabW BitsM BitsW
theorem wdg_end : ∀ (i n : Nat), wdg (i + 1) n = wdg i n ++ [UInt8.ofNat (n / 256 ^ i % 256)]
  | 0, n => by simp [wdg]
  | i + 1, n => by
    rw [show wdg (i + 1 + 1) n = UInt8.ofNat (n % 256) :: wdg (i + 1) (n / 256) from rfl, wdg_end i (n / 256)]
    rw [show wdg (i + 1) n = UInt8.ofNat (n % 256) :: wdg i (n / 256) from rfl, Nat.div_div_eq_div_mul, Nat.pow_succ, Nat.mul_comm]
    rfl
set_option maxRecDepth 20000 in
set_option maxHeartbeats 2000000 in
theorem rwide_any (n : Nat) (w : World) (hn : n < 18446744073709551616) :
    Calls Tryd.prog 21 #[.int .u64 (n : Int)] w fun e w' => e = .returned (.string (bs (wide n))) ∧ Below w.heap.size w w' := by
  have HN := Lib.hid hn
  obtain ⟨S, hS⟩ : ∃ S, wide n = S := ⟨_, rfl⟩
  rw [hS]
  have HS := Lib.hid hS
  clear hS
  go_enter Tryd.func21, Tryd.ntmps21
  go_wp2_with fail
  go_loopw [0, 3, 4] (fun v0 v3 v4 wr => ∃ (i m : Nat) (pre : List UInt8), i ≤ 8 ∧ v4 = .int .i64 i ∧ v0 = .int .u64 m ∧ m < 18446744073709551616 ∧ m = n / 256 ^ i ∧ wdg i n = pre ∧ wr.ownsRow w.heap.size 5 1 v3 i (byteCells pre) ∧ Below w.heap.size w wr) (fun _ _ v4 _ => 8 - (intOf v4).toNat)
  case atStart => exact ⟨0, n, [], by omega, rfl, rfl, HN.out, by rw [Nat.pow_zero, Nat.div_one], rfl, World.ownsRow_nil _ _ _ _, Below.refl _ _⟩
  case round =>
    obtain ⟨i, m, pre, hi, rfl, rfl, hm64, hmn, hpre, hown, hb⟩ := hrel
    have HB := Lib.hid (And.intro hb (And.intro hmn hpre))
    have hbz := hb.size
    clear hb hmn hpre
    by_cases hlt : i < 8
    · have h256 : ((m : Int)) % 256 % 256 = (m : Int) % 256 := by omega
      obtain ⟨y, hy⟩ : ∃ y, UInt8.ofNat (m % 256) = y := ⟨_, rfl⟩
      have hyn : ((y.toNat : Nat) : Int) = (m : Int) % 256 := by rw [← hy, byte_nat _ (by omega)]; omega
      have hw : wdg (i + 1) n = pre ++ [y] := by rw [wdg_end, HB.out.2.2, ← HB.out.2.1, hy]
      have hdiv : (m : Int) / 256 = ((m / 256 : Nat) : Int) := by omega
      have hm2 : m / 256 = n / 256 ^ (i + 1) := by rw [HB.out.2.1, Nat.div_div_eq_div_mul, Nat.pow_succ]
      have hm3 : m / 256 < 18446744073709551616 := by omega
      generalize m / 256 = m2 at hdiv hm2 hm3
      have HR := Lib.hid (And.intro hw (And.intro hm2 hyn))
      clear hy hw hm2 hyn
      go_wp2_with (at_builtin; go_must (refine wpList_append_one rfl _ _ 46 rfl w.heap.size 5 (.int .u8 0) 1 1 Tryd.underlying46 elemU8 rfl (by decide) wr hown rfl _ rfl rfl (one1 rfl) (by omega) (by omega) hbz ?_); intro v' w' hown' hb' hz'; clear hown)
      go_roundw
      case rel =>
        refine ⟨i + 1, m2, pre ++ [y], by omega, by go_num, by first | rfl | (rw [hdiv]), hm3, HR.out.2.1, HR.out.1, ?_, HB.out.1.trans hb'⟩
        rw [byteCells_append]
        have e2 : byteCells [y] = [Value.int .u8 ((m : Int) % 256)] := by simp only [byteCells, List.map_cons, List.map_nil]; rw [HR.out.2.2]
        rw [e2]; exact hown'
      case measure => simp [intOf]; omega
    · obtain rfl : i = 8 := by omega
      have hS : S = pre := by rw [← HS.out]; exact HB.out.2.2
      have hconv : (convert 46 9 _).run Tryd.prog wr = .ok (.string ⟨S.toArray⟩) wr := conv_owned (P := Tryd.prog) (src := 46) (dst := 9) Tryd.underlying46 Tryd.underlying5 Tryd.underlying9 (base := w.heap.size) (n := 8) (by rw [hS]; exact hown)
      clear hS hown
      go_wp2_with fail
      go_ret
      exact ⟨rfl, HB.out.1⟩
set_option maxHeartbeats 1000000 in
theorem rzig_any (x : Int) (w : World) (h : okI x) : Calls Tryd.prog 22 #[.int .i64 x] w fun e w' => e = .returned (.int .u64 (zig x : Nat)) ∧ w = w' := by
  have h1 : -9223372036854775808 ≤ x := h.1
  have h2 : x ≤ 9223372036854775807 := h.2
  by_cases h0 : 0 ≤ x
  · have HZ : Hid (zig x = (2 * x).toNat) := Lib.hid (by unfold zig; rw [if_pos h0])
    have hge : x ≥ 0 := h0
    clear h
    go_enter Tryd.func22, Tryd.ntmps22
    go_wp2
    go_ret
    refine ⟨ret_u64 ?_, rfl⟩
    rw [HZ.out]
    first | omega | (simp only [IntKind.wrap_u64, wrap64] at *; omega)
  · have HZ : Hid (zig x = (-2 * x - 1).toNat) := Lib.hid (by unfold zig; rw [if_neg h0])
    have hge : ¬ x ≥ 0 := h0
    clear h
    go_enter Tryd.func22, Tryd.ntmps22
    go_wp2
    go_ret
    refine ⟨ret_u64 ?_, rfl⟩
    rw [HZ.out]
    first | omega | (simp only [IntKind.wrap_u64, wrap64] at *; omega)
end Go.Proofs.YtdidengokijcjaaDoor.ChW
/-
  chunk.forms, of: THE WALKS.
-/
namespace Go.Proofs.YtdidengokijcjaaDoor.ChW
set_option linter.unusedVariables false
open Go.RowKit FrM FrW StM ChM LabW BitsM BitsW
def pF (g : Nat) : Value := if g = 1 then .func (Fn.func 36) #[] #[] else if g = 2 then .func (Fn.func 38) #[] #[] else if g = 3 then .func (Fn.func 40) #[] #[] else .nilFunc
def gF (g : Nat) : Value := if g = 1 then .func (Fn.func 37) #[] #[] else if g = 2 then .func (Fn.func 39) #[] #[] else if g = 3 then .func (Fn.func 41) #[] #[] else .nilFunc
set_option maxRecDepth 20000 in
set_option maxHeartbeats 1000000 in
theorem forms_any (w : World) : Calls Tryd.prog 29 #[] w fun e w' => e = .returned (.agg #[.nilFunc, .nilFunc, pF 1, gF 1, pF 2, gF 2, pF 3, gF 3]) ∧ Below w.heap.size w w' := by
  go_enter Tryd.func29, Tryd.ntmps29
  go_wp2
  exact bodyPost_ret (v := .agg #[.nilFunc, .nilFunc, pF 1, gF 1, pF 2, gF 2, pF 3, gF 3]) (by simp [results, Tryd.results29, go_sem, pF, gF]) rfl ⟨rfl, (Below.refl _ _).alloc (Nat.le_refl _) _⟩
def ofV (gen : Int) : Value := if 1 ≤ gen ∧ gen ≤ 3 then .tuple #[.agg #[pF gen.toNat, gF gen.toNat], .bool true] else .tuple #[.agg #[.nilFunc, .nilFunc], .bool false]
set_option maxRecDepth 20000 in
set_option maxHeartbeats 1000000 in
theorem of_1 (w : World) : Calls Tryd.prog 16 #[.int .i64 1] w fun e w' => e = .returned (ofV 1) ∧ Below w.heap.size w w' := by
  go_enter Tryd.func16, Tryd.ntmps16
  go_wp2
  exact bodyPost_ret (v := .tuple #[.agg #[pF 1, gF 1], .bool true]) (by simp [results, Tryd.results16, go_sem, pF, gF]) rfl ⟨rfl, (((Below.refl _ _).alloc (Nat.le_refl _) _).alloc (by simp) _).alloc (by simp; omega) _⟩
set_option maxRecDepth 20000 in
set_option maxHeartbeats 1000000 in
theorem of_2 (w : World) : Calls Tryd.prog 16 #[.int .i64 2] w fun e w' => e = .returned (ofV 2) ∧ Below w.heap.size w w' := by
  go_enter Tryd.func16, Tryd.ntmps16
  go_wp2
  exact bodyPost_ret (v := .tuple #[.agg #[pF 2, gF 2], .bool true]) (by simp [results, Tryd.results16, go_sem, pF, gF]) rfl ⟨rfl, (((Below.refl _ _).alloc (Nat.le_refl _) _).alloc (by simp) _).alloc (by simp; omega) _⟩
set_option maxRecDepth 20000 in
set_option maxHeartbeats 1000000 in
theorem of_3 (w : World) : Calls Tryd.prog 16 #[.int .i64 3] w fun e w' => e = .returned (ofV 3) ∧ Below w.heap.size w w' := by
  go_enter Tryd.func16, Tryd.ntmps16
  go_wp2
  exact bodyPost_ret (v := .tuple #[.agg #[pF 3, gF 3], .bool true]) (by simp [results, Tryd.results16, go_sem, pF, gF]) rfl ⟨rfl, (((Below.refl _ _).alloc (Nat.le_refl _) _).alloc (by simp) _).alloc (by simp; omega) _⟩
set_option maxRecDepth 20000 in
set_option maxHeartbeats 1000000 in
theorem of_lo (gen : Int) (h : gen < 1) (w : World) : Calls Tryd.prog 16 #[.int .i64 gen] w fun e w' => e = .returned (.tuple #[.agg #[.nilFunc, .nilFunc], .bool false]) ∧ Below w.heap.size w w' := by
  go_enter Tryd.func16, Tryd.ntmps16
  go_wp2
  exact bodyPost_ret (v := .tuple #[.agg #[.nilFunc, .nilFunc], .bool false]) (by simp [results, Tryd.results16, go_sem]) rfl ⟨rfl, (((Below.refl _ _).alloc (Nat.le_refl _) _).alloc (by simp) _).alloc (by simp; omega) _⟩
set_option maxRecDepth 20000 in
set_option maxHeartbeats 1000000 in
theorem of_hi (gen : Int) (h : 4 ≤ gen) (w : World) : Calls Tryd.prog 16 #[.int .i64 gen] w fun e w' => e = .returned (.tuple #[.agg #[.nilFunc, .nilFunc], .bool false]) ∧ Below w.heap.size w w' := by
  go_enter Tryd.func16, Tryd.ntmps16
  have h1 : ¬ gen < 1 := by omega
  go_wp2
  exact bodyPost_ret (v := .tuple #[.agg #[.nilFunc, .nilFunc], .bool false]) (by simp [results, Tryd.results16, go_sem]) rfl ⟨rfl, (((Below.refl _ _).alloc (Nat.le_refl _) _).alloc (by simp) _).alloc (by simp; omega) _⟩
/-- The form of a generation. -/
theorem of_any (gen : Int) (w : World) : Calls Tryd.prog 16 #[.int .i64 gen] w fun e w' => e = .returned (ofV gen) ∧ Below w.heap.size w w' := by
  rcases (by omega : gen < 1 ∨ 4 ≤ gen ∨ gen = 1 ∨ gen = 2 ∨ gen = 3) with h | h | rfl | rfl | rfl
  · have : ofV gen = .tuple #[.agg #[.nilFunc, .nilFunc], .bool false] := by unfold ofV; rw [if_neg (by omega)]
    rw [this]; exact of_lo gen h w
  · have : ofV gen = .tuple #[.agg #[.nilFunc, .nilFunc], .bool false] := by unfold ofV; rw [if_neg (by omega)]
    rw [this]; exact of_hi gen h w
  · exact of_1 w
  · exact of_2 w
  · exact of_3 w
end Go.Proofs.YtdidengokijcjaaDoor.ChW
