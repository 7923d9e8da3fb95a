/-
  alluviumref04.Bits, All, Read: THE WALKS.
  EQUALITY OF STRUCTS OF ONE-CELL FIELDS, AS RUN EQUATIONS.
  alluviumref05.Same, alluviumlaw05.works: THE WALKS.
  alluviumref02.Lead, Trail: AND WHAT THEY COUNT.
-/
import Derived.Test.YtdidengokijcjaaDoorJ19
import Derived.Deep.RegionHeld3
import Derived.Test.YtdidengokijcjaaDoorRows
import Derived.Test.YtdidengokijcjaaDoorJ06
import Derived.Laws.StructEq
import Derived.Test.YtdidengokijcjaaDoorJ18
import Derived.Test.YtdidengokijcjaaDoorJ09
import Derived.Lib.ItoaNum
import Derived.Lib.TrailingZeros
/-
  alluviumref04.Bits, All, Read: THE WALKS.
-/
namespace Go.Proofs.YtdidengokijcjaaDoor.StW
set_option linter.unusedVariables false
open Go.RowKit Go.Shelf BitsM BitsW StM
theorem bstr_nil : (⟨#[]⟩ : ByteArray) = bstr [] := rfl
set_option maxRecDepth 20000 in
set_option maxHeartbeats 4000000 in
theorem rbitsAll_any (A : Option Addr) (n c : Nat) (l : List Int) (w : World) (hl : Comes w 1 encI okI A n c l) (hn : n ≤ 1000000) :
    Calls Tryd.prog 32 #[.slice A n c] w fun e w' => e = .returned (.string (bstr (bitsAll s0 l))) ∧ Below w.heap.size w w' := by
  have HL := Lib.hid hl
  have hcap : c ≤ 9223372036854775807 := hl.cap
  have hle := hl.le
  clear hl
  go_enter Tryd.func32, Tryd.ntmps32
  go_wp2_with fail
  have HB0 : Hid (Below w.heap.size w (w.alloc (RtObj s0)) ∧ RtAt (w.alloc (RtObj s0)) w.heap.size s0) := Lib.hid (And.intro ((Below.refl _ _).alloc (Nat.le_refl _) _) (heap_alloc_new w _))
  go_loopw [3, 5, 6, 7] (fun v3 v5 _ _ wr => ∃ k : Nat, k ≤ n ∧ v5 = .int .i64 k ∧ v3 = .string (bstr (bitsAll s0 (l.take k))) ∧ Below w.heap.size w wr ∧ RtAt wr w.heap.size (stAll s0 (l.take k))) (fun _ v5 _ _ _ => n - (intOf v5).toNat)
  case atStart => exact ⟨0, Nat.zero_le _, rfl, rfl, HB0.out.1, HB0.out.2⟩
  case round =>
    obtain ⟨k, hk, rfl, rfl, ho, hst⟩ := hrel
    have hln := HL.out.len
    by_cases hlt : k < n
    · have hkl : k < l.length := by omega
      obtain ⟨b, o, rfl, hcs⟩ := int_cells HL.out.lies hkl
      have hc0 := hcs _ ho
      have htk := take_snocL l k hkl
      have e1 : bitsAll s0 (l.take (k + 1)) = bitsAll s0 (l.take k) ++ putS (stAll s0 (l.take k)) l[k] := by rw [htk, bitsAll_snoc]
      have e2 : stAll s0 (l.take (k + 1)) = aftS (stAll s0 (l.take k)) l[k] := by rw [htk, stAll_snoc]
      have hbl := bitsAll_len s0 (l.take k)
      rw [List.length_take, Nat.min_eq_left (by omega)] at hbl
      have hpl := putS_len (stAll s0 (l.take k)) l[k]
      generalize l[k] = t at *
      generalize bitsAll s0 (l.take k) = bs at *
      generalize stAll s0 (l.take k) = s at *
      obtain ⟨N, T, D⟩ := s
      have HP := Lib.hid (rput_any (N, T, D) t)
      generalize putS (N, T, D) t = P at *
      generalize hs' : aftS (N, T, D) t = s' at *
      obtain ⟨x, y, z⟩ := s'
      have HE := Lib.hid (And.intro e1 e2)
      have c0 := hst.c0
      have c1 := hst.c1
      have c2 := hst.c2
      have HS := Lib.hid (And.intro ho hst)
      have hz1 := bstr_size bs
      have hz2 := bstr_size P
      obtain ⟨q1, hq1⟩ : ∃ q1, bs.length = q1 := ⟨_, rfl⟩
      obtain ⟨q2, hq2⟩ : ∃ q2, P.length = q2 := ⟨_, rfl⟩
      rw [hq1] at hz1 hbl
      rw [hq2] at hz2 hpl
      have i0 : (0 : Int) ≤ (k : Int) := by omega
      have i1 : (k : Int) < (n : Int) := by omega
      have HCS := Lib.hid hcs
      clear ho hst hln hcs htk e1 e2 hs' hq1 hq2
      simp only [] at c0 c1 c2
      have K := Lib.hid (fun (W W' : World) (h : Below w.heap.size w W ∧ RtAt W w.heap.size (N, T, D)) (hb' : Below W.heap.size W W') =>
        (⟨⟨later h.1 hb', h.2.later hb'⟩, HCS.out _ (later h.1 hb'), (h.2.later hb').c0, (h.2.later hb').c1, (h.2.later hb').c2⟩ :
          (Below w.heap.size w W' ∧ RtAt W' w.heap.size (N, T, D)) ∧ W'.cell? ⟨b, o + k, none⟩ = some (.int .i64 t) ∧ W'.cell? ⟨w.heap.size, 0, none⟩ = some (.int .i64 N) ∧ W'.cell? ⟨w.heap.size, 1, none⟩ = some (.int .i64 T) ∧ W'.cell? ⟨w.heap.size, 2, none⟩ = some (.int .i64 D)))
      have hS0 := K.out _ _ HS.out (below_self_drew wr)
      have K2 := Lib.hid (fun (W' : World) (h1 : Below w.heap.size w W') (h2 : RtAt W' w.heap.size (N, T, D)) =>
        (⟨⟨h1, h2⟩, HCS.out _ h1, h2.c0, h2.c1, h2.c2⟩ : (Below w.heap.size w W' ∧ RtAt W' w.heap.size (N, T, D)) ∧ W'.cell? ⟨b, o + k, none⟩ = some (.int .i64 t) ∧ W'.cell? ⟨w.heap.size, 0, none⟩ = some (.int .i64 N) ∧ W'.cell? ⟨w.heap.size, 1, none⟩ = some (.int .i64 T) ∧ W'.cell? ⟨w.heap.size, 2, none⟩ = some (.int .i64 D)))
      have hwz : w.heap.size + 1 ≤ wr.heap.size := (Array.getElem?_eq_some_iff.1 HS.out.2).1
      have K3 := Lib.hid (fun (W9 : World) (h : Below wr.drew.heap.size wr.drew W9) (ob : Obj) => K.out wr.drew (W9.alloc ob) hS0.1 (h.alloc h.size ob))
      have K5 := Lib.hid (fun (ob : Obj) => K.out wr (wr.alloc ob).drew HS.out (show Below wr.heap.size wr (wr.alloc ob).drew from ((Below.refl _ _).alloc (Nat.le_refl _) ob).trans ⟨rfl, rfl, rfl, Nat.le_refl _, fun _ _ => rfl⟩))
      have Z := Lib.hid (fun (W9 : World) (h : Below (wr.alloc (.cells #[.int .i64 0, .int .i64 0, .int .i64 0] 76 (0, 0))).drew.heap.size (wr.alloc (.cells #[.int .i64 0, .int .i64 0, .int .i64 0] 76 (0, 0))).drew W9) =>
        have hz : RtAt W9 wr.heap.size (0, 0, 0) := RtAt.later (W := (wr.alloc (.cells #[.int .i64 0, .int .i64 0, .int .i64 0] 76 (0, 0))).drew) (heap_alloc_new wr _) h
        (⟨hz.c0, hz.c1, hz.c2, frozen_of_row W9 _ 0 _ _ hz, frozen_of_row W9 _ 1 _ _ hz, frozen_of_row W9 _ 2 _ _ hz⟩ :
          W9.cell? ⟨wr.heap.size, 0, none⟩ = some (.int .i64 0) ∧ W9.cell? ⟨wr.heap.size, 1, none⟩ = some (.int .i64 0) ∧ W9.cell? ⟨wr.heap.size, 2, none⟩ = some (.int .i64 0) ∧ W9.frozen? ⟨wr.heap.size, 0, none⟩ = false ∧ W9.frozen? ⟨wr.heap.size, 1, none⟩ = false ∧ W9.frozen? ⟨wr.heap.size, 2, none⟩ = false))
      have HPZ := Lib.hid ((HP.out (wr.alloc (.cells #[.int .i64 0, .int .i64 0, .int .i64 0] 76 (0, 0))).drew).mono fun e W9 h => (And.intro h.1 (And.intro h.2 (Z.out _ h.2)) : _))
      have K4 := Lib.hid (fun (W9 : World) (ob : Obj) (h : Below (wr.alloc ob).drew.heap.size (wr.alloc ob).drew W9) (a b' c' : Value) =>
        K2.out (((W9.setCell ⟨wr.heap.size, 0, none⟩ a).setCell ⟨wr.heap.size, 1, none⟩ b').setCell ⟨wr.heap.size, 2, none⟩ c')
          (set3_below _ _ _ (hS0.1.1.trans (((Below.refl _ _).alloc (Nat.le_refl _) ob).mono hS0.1.1.size |>.trans (h.mono (Nat.le_trans hS0.1.1.size (by simp))))) (by omega))
          (((heap_setCell_other _ _ _ _ (by show w.heap.size ≠ wr.heap.size; omega)).trans ((heap_setCell_other _ _ _ _ (by show w.heap.size ≠ wr.heap.size; omega)).trans (heap_setCell_other _ _ _ _ (by show w.heap.size ≠ wr.heap.size; omega)))).trans
            ((hS0.1.2.later ((Below.refl _ _).alloc (Nat.le_refl _) ob)).later h)))
      clear c0 c1 c2 hc0
      go_wp2_with fail
      go_region_held3 (fun W : World => (Below w.heap.size w W ∧ RtAt W w.heap.size (N, T, D)) ∧ W.cell? ⟨b, o + k, none⟩ = some (.int .i64 t) ∧ W.cell? ⟨w.heap.size, 0, none⟩ = some (.int .i64 N) ∧ W.cell? ⟨w.heap.size, 1, none⟩ = some (.int .i64 T) ∧ W.cell? ⟨w.heap.size, 2, none⟩ = some (.int .i64 D))
        (first | exact hS0 | exact K5.out _ | exact K.out _ _ (And.left (by assumption)) (by assumption) | exact K3.out _ (by assumption) _ | exact K4.out _ _ (by assumption) _ _ _)
        (first
          | (go_at_call 44; refine HPZ.out.mono ?_; rintro e w9 ⟨rfl, hb9, z0, z1, z2, y0, y1, y2⟩)
          | (go_at_call 44; refine (HP.out _).mono ?_; rintro e w9 ⟨rfl, hb9⟩))
      · rename_i hh
        have ht4 := heap_alloc_new w9 (RtObj (x, y, z))
        change RtAt (w9.alloc (.cells #[.int .i64 x, .int .i64 y, .int .i64 z] 76 (0, 0))) w9.heap.size (x, y, z) at ht4
        generalize w9.alloc (.cells #[.int .i64 x, .int .i64 y, .int .i64 z] 76 (0, 0)) = w4 at hh ht4 ⊢
        have HB4 := Lib.hid hh.1.1
        have hst4 := hh.1.2
        have k0 := ht4.c0
        have k1 := ht4.c1
        have k2 := ht4.c2
        simp only [] at k0 k1 k2
        clear hh ht4 K K2 K3 K4 K5 HPZ hS0 Z HP hb9
        go_wp2_with (refine wpList_store_row rfl 76 _ _ rfl w.heap.size #[.int .i64 x, .int .i64 y, .int .i64 z] rfl rfl 76 _ hst4 info_rt rfl (by simp [Value.oneCell']) ?_; have HB5 := Lib.hid (below_setRow HB4.out (Nat.le_refl _) #[.int .i64 x, .int .i64 y, .int .i64 z]); have HR5 : Hid (RtAt (w4.setRow w.heap.size #[.int .i64 x, .int .i64 y, .int .i64 z]) w.heap.size (x, y, z)) := Lib.hid (setRow_heap _ _ _ _ _ _ hst4); clear hst4 k0 k1 k2; generalize w4.setRow w.heap.size #[.int .i64 x, .int .i64 y, .int .i64 z] = w5 at HB5 HR5 ⊢)
        go_roundw
        case rel => exact ⟨k + 1, by omega, by go_num, by rw [HE.out.1, bstr_append], HB5.out, by rw [HE.out.2]; exact HR5.out⟩
        case measure => simp [intOf]; omega
      · rename_i hh
        have hz9 : RtAt w9 wr.heap.size (0, 0, 0) := RtAt.later (W := (wr.alloc (RtObj (0, 0, 0))).drew) (heap_alloc_new wr _) hb9
        have ht4 : RtAt (((w9.setCell ⟨wr.heap.size, 0, none⟩ (.int .i64 x)).setCell ⟨wr.heap.size, 1, none⟩ (.int .i64 y)).setCell ⟨wr.heap.size, 2, none⟩ (.int .i64 z)) wr.heap.size (x, y, z) := set3_row _ _ _ hz9
        generalize ((w9.setCell ⟨wr.heap.size, 0, none⟩ (.int .i64 x)).setCell ⟨wr.heap.size, 1, none⟩ (.int .i64 y)).setCell ⟨wr.heap.size, 2, none⟩ (.int .i64 z) = w4 at hh ht4 ⊢
        have HB4 := Lib.hid hh.1.1
        have hst4 := hh.1.2
        have k0 := ht4.c0
        have k1 := ht4.c1
        have k2 := ht4.c2
        simp only [] at k0 k1 k2
        clear hh ht4 K K2 K3 K4 K5 HPZ hS0 Z HP hb9
        go_wp2_with (refine wpList_store_row rfl 76 _ _ rfl w.heap.size #[.int .i64 x, .int .i64 y, .int .i64 z] rfl rfl 76 _ hst4 info_rt rfl (by simp [Value.oneCell']) ?_; have HB5 := Lib.hid (below_setRow HB4.out (Nat.le_refl _) #[.int .i64 x, .int .i64 y, .int .i64 z]); have HR5 : Hid (RtAt (w4.setRow w.heap.size #[.int .i64 x, .int .i64 y, .int .i64 z]) w.heap.size (x, y, z)) := Lib.hid (setRow_heap _ _ _ _ _ _ hst4); clear hst4 k0 k1 k2; generalize w4.setRow w.heap.size #[.int .i64 x, .int .i64 y, .int .i64 z] = w5 at HB5 HR5 ⊢)
        go_roundw
        case rel => exact ⟨k + 1, by omega, by go_num, by rw [HE.out.1, bstr_append], HB5.out, by rw [HE.out.2]; exact HR5.out⟩
        case measure => simp [intOf]; omega
    · obtain rfl : k = n := by omega
      rw [List.take_of_length_le (by omega)]
      have HO := Lib.hid ho
      clear ho hst hln
      go_wp2
      go_ret
      exact ⟨rfl, HO.out⟩
set_option maxRecDepth 20000 in
set_option maxHeartbeats 1000000 in
theorem rall_any (A : Option Addr) (n c : Nat) (l : List Int) (w : World) (hl : Comes w 1 encI okI A n c l) (hn : n ≤ 1000000) :
    Calls Tryd.prog 24 #[.slice A n c] w fun e w' => e = .returned (.string ⟨(pack (bitsAll s0 l)).toArray⟩) ∧ Below w.heap.size w w' := by
  have HA := Lib.hid (rbitsAll_any A n c l w hl hn)
  have hbl := bitsAll_len s0 l
  have hln := hl.len
  have HB := Lib.hid (fun W => rbytes_any (bitsAll s0 l) W (by omega))
  clear hl hbl hln
  generalize bitsAll s0 l = bs at *
  go_enter Tryd.func24, Tryd.ntmps24
  go_wp2_with fail
  refine HA.out.mono ?_
  rintro e w1 ⟨rfl, hb1⟩
  have HB1 := Lib.hid hb1
  clear hb1
  go_wp2_with fail
  refine (HB.out _).mono ?_
  rintro e w2 ⟨rfl, hb2⟩
  have HB2 := Lib.hid (later HB1.out hb2)
  clear hb2
  go_wp2
  go_ret
  exact ⟨rfl, HB2.out⟩
theorem refG_split {b : List Bool} {s : St} (hs : okSt s) (n : Nat) : readS b (n + 1) s = (if (refG b s).2.2 then (readS (refG b s).2.1 n (refG b s).1).map (fun x : List Int × List Bool => ((refG b s).1.2.1 :: x.1, x.2)) else none) := by
  unfold refG
  cases h : getS b s with
  | none => show (match getS b s with | none => none | some (t, k) => _) = _; rw [h]; rfl
  | some x =>
    obtain ⟨t, k⟩ := x
    show (match getS b s with | none => none | some (t, k) => (readS (b.drop k) n (aftS s t)).map fun x : List Int × List Bool => (t :: x.1, x.2)) = _
    rw [h]
    simp only [if_true, aft_T]
theorem refG_ok {b : List Bool} {s : St} (hs : okSt s) : okSt (refG b s).1 ∧ (refG b s).2.1.length ≤ b.length := by
  unfold refG
  cases h : getS b s with
  | none => exact ⟨hs, Nat.le_refl _⟩
  | some x =>
    obtain ⟨t, k⟩ := x
    obtain ⟨h1, -⟩ := put_get b s t k hs h
    exact ⟨okSt_aft hs h1, by show (b.drop k).length ≤ _; rw [List.length_drop]; omega⟩
theorem okSt0 : okSt s0 := show okSt (0, 0, 0) by unfold okSt okI; simp
/-- 'append(s, x)' of one thing, onto a row of the call's own: all other blocks are as they were. -/
theorem wpList_append_keep {P : Program} {ops : Array Oper} {rest : List Oper} {o : Oper} {a : Act} {Q : Exit → Act → World → Prop} (hgd : o.guard = none) (s x : Operand) (t : TypeId)
    (ho : o.op = .call { callee := .builtin .append, args := #[s, x], argTypes := #[t, t] })
    (base : Nat) (e : TypeId) (z : Value) (size bytes : Nat) (ht : P.underlying t = some (.slice e)) (he : Elem P e z size bytes) (hzs : z.cells.size = size) (hsz : 0 < size)
    {v : Value} {n : Nat} {xs : List Value} (wr : World) (hown : wr.ownsRow base e size v n xs) (hs : a.eval s = v) (us : Array Value)
    (hx : a.eval x = .slice (some ⟨wr.heap.size, 0, none⟩) 1 1) (hl : us.size = size) (h1 : ∀ u ∈ us.toList, u.oneCell' = true)
    (hbytes : (n + 1) * bytes ≤ 140737488355328) (h63 : n + 1 ≤ 140737488355328) (hbase : base ≤ wr.heap.size)
    (h : ∀ v' w', w'.ownsRow base e size v' (n + 1) (xs ++ us.toList) → Below base wr w' → wr.heap.size < w'.heap.size → (∀ k, k < wr.heap.size → v.ownBlock ≠ some k → w'.heap[k]? = wr.heap[k]?) → wpList P ops Q rest (a.put o.dst v') w') :
    wpList P ops Q (o :: rest) a (wr.alloc (.cells us e (0, 0))) := by
  obtain ⟨i0, hi, hz0, hz1, hz2⟩ := info_parts he
  refine wpList_append_own (w := wr.alloc (.cells us e (0, 0))) hgd s x t ho base e i0 z size bytes ht hi hz0 hz1 hz2 hzs hsz v n xs hs (hown.alloc _) ⟨wr.heap.size, 0, none⟩ 1 1 us.toList hx (by simp [hl]) ?_ h1 ?_ hbytes ?_ ?_
  · intro j u hj
    have hp : (⟨wr.heap.size, 0, none⟩ : Addr).add j = ⟨wr.heap.size, j, none⟩ := by unfold Addr.add; split <;> simp_all
    rw [hp, World.cell?_alloc_mark]
    simpa using hj
  · unfold maxLen; omega
  · simp; omega
  · intro v' w' hown' hg _
    refine h v' w' hown' ?_ ?_ ?_
    · refine ((Below.refl base wr).alloc hbase _).grown hg (by simp; omega) ?_
      intro k hk
      rcases hown.2 with ⟨hv, _⟩ | ⟨g, cap, cur, hv, hgb, _⟩
      · rw [hv] at hk; cases hk
      · rw [hv] at hk; cases hk; exact hgb
    · have := hg.size; simp at this; omega
    · intro k hk hne
      exact (hg.block k (by simp; omega) (fun e => hne e.symm)).trans (Below.heap_alloc wr _ k hk)
theorem own_lt {w : World} {base n size : Nat} {e : TypeId} {v : Value} {xs : List Value} (h : w.ownsRow base e size v n xs) : ∀ k, v.ownBlock = some k → base ≤ k ∧ k < w.heap.size := by
  intro k hk
  rcases h.2 with ⟨hv, _⟩ | ⟨g, cap, cur, hv, hgb, hh, _⟩
  · rw [hv] at hk; cases hk
  · rw [hv] at hk; cases hk; exact ⟨hgb, (Array.getElem?_eq_some_iff.1 hh).1⟩
end Go.Proofs.YtdidengokijcjaaDoor.StW
/-
  EQUALITY OF STRUCTS OF ONE-CELL FIELDS, AS RUN EQUATIONS.
-/
namespace Go.Proofs.YtdidengokijcjaaDoor.VaW
open Go.RowKit
def sameVa (x1 y1 : Int) (x2 y2 : Int) (x3 y3 : Int) (x4 y4 : Int) : Bool := (x1 == y1) && (x2 == y2) && (x3 == y3) && (x4 == y4)
set_option maxRecDepth 100000 in
theorem equal_Va (x1 y1 : Int) (x2 y2 : Int) (x3 y3 : Int) (x4 y4 : Int) (w : World) : (Op.equalIn 10000 106 (.agg #[.int .i64 x1, .int .u64 x2, .int .i64 x3, .int .i64 x4]) (.agg #[.int .i64 y1, .int .u64 y2, .int .i64 y3, .int .i64 y4])).run Tryd.prog w = .ok (sameVa x1 y1 x2 y2 x3 y3 x4 y4) w := by
  have ht : Tryd.prog.underlying 106 = some (.struct (Tryd.prog.fieldsOf 106)) := by kernel_rfl
  have hp : Tryd.prog.stoodInHeld 106 = false := by kernel_rfl
  rw [run_equalIn_agg _ _ _ _ _ ht hp]
  unfold Program.fieldsOf sameVa
  rw [Tryd.underlying106]
  clear ht hp
  have e0 := fun d a b => run_equalIn_int (P := Tryd.prog) w d 3 .i64 .i64 a b Tryd.underlying3
  have e1 := fun d a b => run_equalIn_int (P := Tryd.prog) w d 35 .u64 .u64 a b Tryd.underlying35
  simp (decide := true) only [Op.eqFields, Sem.run_ite, Sem.run_bind, Sem.run_pure, part, Tryd.isAgg3, Tryd.isAgg35, Result.andThen_ok, if_false, if_true, show (#[.int .i64 x1, .int .u64 x2, .int .i64 x3, .int .i64 x4] : Array Value)[0]? = some (.int .i64 x1) from rfl, show (#[.int .i64 x1, .int .u64 x2, .int .i64 x3, .int .i64 x4] : Array Value)[1]? = some (.int .u64 x2) from rfl, show (#[.int .i64 x1, .int .u64 x2, .int .i64 x3, .int .i64 x4] : Array Value)[2]? = some (.int .i64 x3) from rfl, show (#[.int .i64 x1, .int .u64 x2, .int .i64 x3, .int .i64 x4] : Array Value)[3]? = some (.int .i64 x4) from rfl, show (#[.int .i64 y1, .int .u64 y2, .int .i64 y3, .int .i64 y4] : Array Value)[0]? = some (.int .i64 y1) from rfl, show (#[.int .i64 y1, .int .u64 y2, .int .i64 y3, .int .i64 y4] : Array Value)[1]? = some (.int .u64 y2) from rfl, show (#[.int .i64 y1, .int .u64 y2, .int .i64 y3, .int .i64 y4] : Array Value)[2]? = some (.int .i64 y3) from rfl, show (#[.int .i64 y1, .int .u64 y2, .int .i64 y3, .int .i64 y4] : Array Value)[3]? = some (.int .i64 y4) from rfl, e0 9998, e1 9998]
  cases (x1 == y1) <;> cases (x2 == y2) <;> cases (x3 == y3) <;> cases (x4 == y4) <;> rfl
theorem neq_Va (x1 y1 : Int) (x2 y2 : Int) (x3 y3 : Int) (x4 y4 : Int) : ∀ w, (binOp .neq 106 (.agg #[.int .i64 x1, .int .u64 x2, .int .i64 x3, .int .i64 x4]) (.agg #[.int .i64 y1, .int .u64 y2, .int .i64 y3, .int .i64 y4])).run Tryd.prog w = .ok (.bool (!sameVa x1 y1 x2 y2 x3 y3 x4 y4)) w := fun w => by
  rw [run_neq_struct, equal_Va]; rfl
theorem eql_Va (x1 y1 : Int) (x2 y2 : Int) (x3 y3 : Int) (x4 y4 : Int) : ∀ w, (binOp .eql 106 (.agg #[.int .i64 x1, .int .u64 x2, .int .i64 x3, .int .i64 x4]) (.agg #[.int .i64 y1, .int .u64 y2, .int .i64 y3, .int .i64 y4])).run Tryd.prog w = .ok (.bool (sameVa x1 y1 x2 y2 x3 y3 x4 y4)) w := fun w => by
  rw [run_eql_struct, equal_Va]; rfl
theorem guard_Va : Tryd.prog.eqGuardType Tryd.prog.depth 106 = false := by kernel_rfl
end Go.Proofs.YtdidengokijcjaaDoor.VaW
/-
  alluviumref05.Same, alluviumlaw05.works: THE WALKS.
-/
namespace Go.Proofs.YtdidengokijcjaaDoor.VaW
set_option linter.unusedVariables false
open Go.RowKit Go.Shelf BitsM BitsW VaM
def exL : List Nat := [7, 7, 5]
theorem ex_ok : ∀ t ∈ exL, okU t := by unfold exL okU; simp
theorem ex_read : readB (unpack (pack (bitsV v0 exL))) 3 = some exL := read_back exL ex_ok (by unfold exL; simp)
theorem Comes.three (w : World) (a b c : Nat) (ha : okU a) (hb : okU b) (hc : okU c) {g : Nat} (h : w.heap[g]? = some (.cells #[.int .u64 (a : Int), .int .u64 (b : Int), .int .u64 (c : Int)] 35 (0, 0))) : Comes w 1 encU okU (some ⟨g, 0, none⟩) 3 3 [a, b, c] :=
  Comes.block h rfl (fun _ => rfl) rfl (Nat.le_refl _) (by unfold maxLen; omega) (fun x hx => by simp at hx; rcases hx with rfl | rfl | rfl <;> assumption)
theorem ex_one : aftV v0 7 = (1, 7, 64, 0) ∧ aftV (1, 7, 64, 0) 7 = (2, 7, 64, 0) ∧ aftV (2, 7, 64, 0) 5 = (3, 5, 62, 1) ∧ (putV v0 7).length = 64 ∧ (putV (1, 7, 64, 0) 7).length = 1 ∧ (putV (2, 7, 64, 0) 5).length = 15 := by decide +kernel
theorem packed_size (l : List Nat) : (⟨(pack (bitsV v0 l)).toArray⟩ : ByteArray).size ≤ 10 * l.length + 1 := by
  have h := bitsV_len v0 l
  simp only [ByteArray.size, List.size_toArray, pack_length]; omega
end Go.Proofs.YtdidengokijcjaaDoor.VaW
/-
  alluviumref02.Lead, Trail: AND WHAT THEY COUNT.
-/
namespace Go.Proofs.YtdidengokijcjaaDoor.BitsW
open Go.RowKit Go.Shelf BitsM
theorem msb_get (v : Nat) : ∀ (n i : Nat), i < n → (msb v n)[i]? = some (decide (v / 2 ^ (n - 1 - i) % 2 = 1))
  | 0, i, h => by omega
  | n + 1, i, h => by
    rw [msb_cons]
    cases i with
    | zero => simp
    | succ i =>
      rw [List.getElem?_cons_succ, msb_get v n i (by omega), show n + 1 - 1 - (i + 1) = n - 1 - i by omega]
theorem high_zero (v n : Nat) (hv : v < 2 ^ 64) (hn : n ≤ 64) (h : ∀ i, i < n → v / 2 ^ (63 - i) % 2 ≠ 1) : v / 2 ^ (64 - n) = 0 := by
  induction n with
  | zero => exact Nat.div_eq_of_lt hv
  | succ n ih =>
    have h1 := ih (by omega) (fun i hi => h i (by omega))
    have h2 := h n (by omega)
    rw [show 64 - n = (63 - n) + 1 by omega, Nat.pow_succ, ← Nat.div_div_eq_div_mul] at h1
    rw [show 64 - (n + 1) = 63 - n by omega]
    omega
theorem lead_is (v n : Nat) (hv : v < 2 ^ 64) (hn : n ≤ 64) (h : ∀ i, i < n → v / 2 ^ (63 - i) % 2 ≠ 1) (h1 : n < 64 → v / 2 ^ (63 - n) % 2 = 1) : n = 64 - Lib.bitLen v := by
  have hz := high_zero v n hv hn h
  have hlt : v < 2 ^ (64 - n) := (Nat.div_eq_zero_iff_lt (Nat.two_pow_pos _)).1 hz
  have hle : Lib.bitLen v ≤ 64 - n := Lib.bitLen_le v (64 - n) (by omega) hlt
  by_cases h64 : n < 64
  · have hge : 2 ^ (63 - n) ≤ v := by
      apply Nat.le_of_not_lt
      intro hl
      have h2 := h1 h64
      rw [Nat.div_eq_of_lt hl] at h2
      omega
    have hv0 : v ≠ 0 := by have := Nat.two_pow_pos (63 - n); omega
    obtain ⟨b1, b2, b3⟩ := Lib.bitLenAux_bounds 64 v hv hv0
    have h3 : (2 : Nat) ^ (63 - n) < 2 ^ Lib.bitLen v := Nat.lt_of_le_of_lt hge b3
    have h4 := (Nat.pow_lt_pow_iff_right (by decide : 1 < 2)).1 h3
    omega
  · omega
theorem low_zero (v n : Nat) (h : ∀ i, i < n → v / 2 ^ i % 2 ≠ 1) : v = 2 ^ n * (v / 2 ^ n) := by
  induction n with
  | zero => simp
  | succ n ih =>
    have h1 := ih (fun i hi => h i (by omega))
    have h2 := h n (by omega)
    rw [Nat.pow_succ, ← Nat.div_div_eq_div_mul, Nat.mul_assoc, Nat.mul_comm 2]
    have h3 : v / 2 ^ n / 2 * 2 = v / 2 ^ n := by omega
    rw [h3]; exact h1
theorem trail_is (v n : Nat) (hv : v < 2 ^ 64) (hn : n ≤ 64) (h : ∀ i, i < n → v / 2 ^ i % 2 ≠ 1) (h1 : n < 64 → v / 2 ^ n % 2 = 1) : n = Lib.ctz 64 v := by
  have hl := low_zero v n h
  unfold Lib.ctz
  by_cases h0 : v = 0
  · rw [if_pos h0]
    apply Nat.le_antisymm hn
    apply Nat.le_of_not_lt
    intro h64
    have h2 := h1 h64
    rw [h0] at h2
    simp at h2
  · rw [if_neg h0]
    obtain ⟨m, hm, hk⟩ := Lib.ctzFrom_spec 64 v (by omega) hv
    generalize Lib.ctzFrom 64 v = k at *
    have hn64 : n < 64 := by
      apply Nat.lt_of_not_le
      intro hge
      obtain rfl : n = 64 := by omega
      rw [Nat.div_eq_of_lt hv] at hl
      omega
    have hodd := h1 hn64
    rcases Nat.lt_trichotomy n k with hlt | heq | hgt
    · exfalso
      have e : v / 2 ^ n = 2 ^ (k - n) * (2 * m + 1) := by
        rw [hm, show k = n + (k - n) by omega, Nat.pow_add, Nat.mul_assoc, Nat.mul_div_cancel_left _ (Nat.two_pow_pos n), Nat.add_sub_cancel_left]
      rw [e, show k - n = (k - n - 1) + 1 by omega, Nat.pow_succ] at hodd
      rw [Nat.mul_comm (2 ^ (k - n - 1)) 2, Nat.mul_assoc, Nat.mul_mod_right] at hodd
      omega
    · exact heq
    · exfalso
      apply h k hgt
      rw [hm, Nat.mul_div_cancel_left _ (Nat.two_pow_pos k)]
      omega
theorem between (v : Nat) (hv : v < 2 ^ 64) (h0 : v ≠ 0) : Lib.ctz 64 v < Lib.bitLen v ∧ Lib.bitLen v ≤ 64 := by
  obtain ⟨b1, b2, b3⟩ := Lib.bitLenAux_bounds 64 v hv h0
  obtain ⟨m, hm, hk⟩ := Lib.ctzFrom_spec 64 v (by omega) hv
  have e : Lib.ctz 64 v = Lib.ctzFrom 64 v := by simp [Lib.ctz, h0]
  refine ⟨?_, Lib.bitLen_le v 64 (by omega) hv⟩
  rw [e]
  have h1 : 2 ^ Lib.ctzFrom 64 v ≤ v := by
    have : 2 ^ Lib.ctzFrom 64 v * 1 ≤ 2 ^ Lib.ctzFrom 64 v * (2 * m + 1) := Nat.mul_le_mul_left _ (by omega)
    omega
  exact (Nat.pow_lt_pow_iff_right (by decide : 1 < 2)).1 (Nat.lt_of_le_of_lt h1 b3)
theorem bits64 (v : Nat) (hv : v < 18446744073709551616) : ∃ S : ByteArray, S.size = 64 ∧ (∀ n (h : n < S.size), (((S[n]'h).toNat : Int) == 48) = !decide (v / 2 ^ (63 - n) % 2 = 1)) ∧
    ∀ w, Calls Tryd.prog 46 #[.int .u64 v, .int .i64 64] w fun e w' => e = .returned (.string S) ∧ w = w' := by
  refine ⟨bstr (msb v 64), by rw [bstr_size, msb_length], fun n h => ?_, fun w => rbits_any v 64 w hv (by omega)⟩
  have hlt : n < 64 := by rw [bstr_size, msb_length] at h; exact h
  have hge := congrArg (fun x : UInt8 => ((x.toNat : Int) == 48)) (bstr_get (msb v 64) n h)
  simp only [chr_zero] at hge
  have hg := msb_get v 64 n hlt
  rw [List.getElem?_eq_getElem (by rw [msb_length]; exact hlt)] at hg
  rw [hge, Option.some.inj hg]
set_option maxHeartbeats 400000 in
theorem rlead_any (v : Nat) (w : World) (hv : v < 18446744073709551616) :
    Calls Tryd.prog 47 #[.int .u64 v] w fun e w' => e = .returned (.int .i64 ((64 - Lib.bitLen v : Nat) : Int)) ∧ w = w' := by
  obtain ⟨S, hz, hget, hcall⟩ := bits64 v hv
  have HC := Lib.hid hcall
  have HT := Lib.hid hget
  clear hcall hget
  go_enter Tryd.func47, Tryd.ntmps47
  go_wp2_with (go_at_call 46; refine (HC.out _).mono ?_; rintro e w' ⟨rfl, rfl⟩)
  go_loop [4] (fun v4 => ∃ n : Nat, n ≤ 64 ∧ v4 = .int .i64 n ∧ ∀ i, i < n → v / 2 ^ (63 - i) % 2 ≠ 1) (fun v4 => 64 - (intOf v4).toNat)
  case atStart => exact ⟨0, Nat.zero_le _, rfl, fun i h => by omega⟩
  case round =>
    obtain ⟨n, hn, rfl, hall⟩ := hrel
    have HA := Lib.hid hall
    clear hall
    by_cases hlt : n < 64
    · have hbi : n < S.size := by omega
      have hge := HT.out n hbi
      by_cases hb : v / 2 ^ (63 - n) % 2 = 1
      · have hb' : decide (v / 2 ^ (63 - n) % 2 = 1) = true := by simpa using hb
        rw [hb'] at hge
        have HB := Lib.hid hb
        clear hb hb'
        go_wp2
        go_ret
        refine ⟨?_, rfl⟩
        rw [← lead_is v n hv hn HA.out (fun _ => HB.out)]
        rfl
      · have hb' : decide (v / 2 ^ (63 - n) % 2 = 1) = false := by simpa using hb
        rw [hb'] at hge
        have HB := Lib.hid hb
        clear hb hb'
        go_wp2
        go_round
        case rel =>
          refine ⟨n + 1, by omega, by go_num, fun i hi => ?_⟩
          by_cases he : i = n
          · subst he; exact HB.out
          · exact HA.out i (by omega)
        case measure => simp [intOf]; omega
    · obtain rfl : n = 64 := by omega
      go_wp2
      go_ret
      refine ⟨?_, rfl⟩
      rw [← lead_is v 64 hv hn HA.out (fun h => by omega)]
      rfl
set_option maxHeartbeats 400000 in
theorem rtrail_any (v : Nat) (w : World) (hv : v < 18446744073709551616) :
    Calls Tryd.prog 48 #[.int .u64 v] w fun e w' => e = .returned (.int .i64 (Lib.ctz 64 v)) ∧ w = w' := by
  obtain ⟨S, hz, hget, hcall⟩ := bits64 v hv
  have HC := Lib.hid hcall
  have HT := Lib.hid hget
  clear hcall hget
  go_enter Tryd.func48, Tryd.ntmps48
  go_wp2_with (go_at_call 46; refine (HC.out _).mono ?_; rintro e w' ⟨rfl, rfl⟩)
  go_loop [4] (fun v4 => ∃ n : Nat, n ≤ 64 ∧ v4 = .int .i64 n ∧ ∀ i, i < n → v / 2 ^ i % 2 ≠ 1) (fun v4 => 64 - (intOf v4).toNat)
  case atStart => exact ⟨0, Nat.zero_le _, rfl, fun i h => by omega⟩
  case round =>
    obtain ⟨n, hn, rfl, hall⟩ := hrel
    have HA := Lib.hid hall
    clear hall
    by_cases hlt : n < 64
    · obtain ⟨k, hk⟩ : ∃ k, 63 - n = k := ⟨_, rfl⟩
      have hki : (63 : Int) - (n : Int) = (k : Int) := by omega
      have hkw : IntKind.i64.wrap ((63 : Int) - (n : Int)) = (k : Int) := by rw [hki]; exact IntWalk.i64_in _ (by omega)
      have hbi : k < S.size := by omega
      have hge := HT.out k hbi
      rw [show 63 - k = n by omega] at hge
      by_cases hb : v / 2 ^ n % 2 = 1
      · have hb' : decide (v / 2 ^ n % 2 = 1) = true := by simpa using hb
        rw [hb'] at hge
        have HB := Lib.hid hb
        clear hb hb'
        go_wp2
        go_ret
        refine ⟨?_, rfl⟩
        rw [← trail_is v n hv hn HA.out (fun _ => HB.out)]
        rfl
      · have hb' : decide (v / 2 ^ n % 2 = 1) = false := by simpa using hb
        rw [hb'] at hge
        have HB := Lib.hid hb
        clear hb hb'
        go_wp2
        go_round
        case rel =>
          refine ⟨n + 1, by omega, by go_num, fun i hi => ?_⟩
          by_cases he : i = n
          · subst he; exact HB.out
          · exact HA.out i (by omega)
        case measure => simp [intOf]; omega
    · obtain rfl : n = 64 := by omega
      go_wp2
      go_ret
      refine ⟨?_, rfl⟩
      rw [← trail_is v 64 hv hn HA.out (fun h => by omega)]
      rfl
end Go.Proofs.YtdidengokijcjaaDoor.BitsW
