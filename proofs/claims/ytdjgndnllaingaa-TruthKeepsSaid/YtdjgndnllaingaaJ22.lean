/-
  slices.Insert AT SERIES (one series, into a row of the call's own): THE WALK.
-/
import Derived.Test.YtdjgndnllaingaaJ21
import Derived.Lib.Overlaps
import Derived.Lib.AppendZerosOnto
import Derived.Laws.CopyRow
import Derived.Laws.Externs
/-
  slices.Insert AT SERIES (one series, into a row of the call's own): THE WALK.
-/
namespace Go.Proofs.Ytdjgndnllaingaa.TrW
set_option linter.unusedVariables false
open Go.RowKit Go.Shelf LabM LbM LabW FrW TrM
theorem run_copy_rowN {P : Program} (w : World) (dT sT ty elem : TypeId) (size g o dLen dCap : Nat) (a : Addr) (sLen sCap : Nat) (cur : Array Value) (t : TypeId) (cs : List Value)
    (hu : P.underlying dT = some (.slice elem)) (hs : (P.info? elem).map (·.size) = some size)
    (hg : w.heap[g]? = some (.cells cur t (0, 0))) (hn : cs.length = Nat.min sLen dLen * size)
    (hsrc : ∀ j v, cs[j]? = some v → w.cell? (a.add j) = some v) (hfit : o + cs.length ≤ cur.size) (h1 : ∀ v ∈ cs, v.oneCell' = true) :
    (Builtin.copy_ #[dT, sT] ty #[.slice (some ⟨g, o, none⟩) dLen dCap, .slice (some a) sLen sCap]).run P w =
      .ok (goInt (Nat.min sLen dLen)) (w.setRow g (cur.toList.take o ++ cs ++ cur.toList.drop (o + cs.length)).toArray) := by
  have hl := run_loadCells_list (P := P) w a cs hsrc
  have hst := run_storeCells_at P g o t cs 0 cur w hg (by simpa using hfit) h1
  cases hq : P.info? elem with
  | none => simp [hq] at hs
  | some i =>
    have hi : i.size = size := by simpa [hq] using hs
    simp [Builtin.copy_, run_underlying hu, Builtin.lenOf, Builtin.firstCells, sizeOf, typeInfo, hq, hi, ← hn, hl, hst]
theorem wpList_copy_runI {P : Program} (w : World) {ops : Array Oper} {rest : List Oper} {o : Oper} {a : Act} {Q : Exit → Act → World → Prop} (hgd : o.guard = none) (d s : Operand) (t t' : TypeId)
    (ho : o.op = .call { callee := .builtin .copy, args := #[d, s], argTypes := #[t, t'] }) (v u : Value) (hd : a.eval d = v) (hs : a.eval s = u) {v' : Value} {w' : World}
    (hr : (Builtin.copy_ #[t, t'] o.type #[v, u]).run P w = .ok v' w') (h : wpList P ops Q rest (a.put o.dst v') w') : wpList P ops Q (o :: rest) a w :=
  wpList_plain hgd fun _ hK => by
    refine (show Oper.wp P o a w _ Q from ?_)
    unfold Oper.wp execOp
    simp only [ho, resolve, invoke, builtin, Sem.run_bind, Sem.run_pure, Result.andThen_ok, List.map_toArray, List.map_cons, List.map_nil, hd, hs, hr]
    exact hK _ _ h
/-- 'append' of a slice that lies there, onto a row of the call's own; all other blocks are as they were. -/
theorem wpList_append_comesK {P : Program} {α : Type} {ops : Array Oper} {rest : List Oper} {o : Oper} {a : Act} {Q : Exit → Act → World → Prop} (hgd : o.guard = none) (s x : Operand) (t : TypeId)
    (ho : o.op = .call { callee := .builtin .append, args := #[s, x], argTypes := #[t, t] })
    (base : Nat) (e : TypeId) (z : Value) (size bytes : Nat) (ht : P.underlying t = some (.slice e)) (he : Elem P e z size bytes) (hzs : z.cells.size = size) (hsz : 0 < size)
    {v : Value} {n : Nat} {xs : List Value} (w : World) (hown : w.ownsRow base e size v n xs) (hs : a.eval s = v)
    {encA : α → List Value} {okA : α → Prop} {ad : Addr} {m c : Nat} {l : List α} (hx : a.eval x = .slice (some ad) m c) (hl : Comes w size encA okA (some ad) m c l)
    (hes : ∀ x, (encA x).length = size) (h1 : ∀ x, ∀ u ∈ encA x, u.oneCell' = true)
    (hbytes : (n + m) * bytes ≤ 140737488355328) (h63 : n + m ≤ 140737488355328) (hbase : base ≤ w.heap.size)
    (h : ∀ v' w', w'.ownsRow base e size v' (n + m) (xs ++ l.flatMap encA) → w.grownBy w' v.ownBlock → wpList P ops Q rest (a.put o.dst v') w') :
    wpList P ops Q (o :: rest) a w := by
  obtain ⟨i0, hi, hz0, hz1, hz2⟩ := info_parts he
  refine wpList_append_own (w := w) hgd s x t ho base e i0 z size bytes ht hi hz0 hz1 hz2 hzs hsz v n xs hs hown ad m c (l.flatMap encA) hx (by rw [flatMap_len hes, hl.len]) (hl.news hes hsz) ?_ ?_ hbytes hbase ?_
  · intro u hu
    obtain ⟨y, _, hy⟩ := List.mem_flatMap.1 hu
    exact h1 y u hy
  · unfold maxLen; omega
  · intro v' w' hown' hg _
    exact h v' w' hown' hg
def insF (F : List SerH) (i : Nat) (X : SerH) : List SerH := F.take i ++ X :: F.drop i
set_option maxRecDepth 20000 in
set_option maxHeartbeats 4000000 in
theorem insert_end (B : Nat) (v : Value) (n : Nat) (F : List SerH) (X : SerH) (g : Nat) (w : World) (hn : n ≤ 1000) (hl : F.length = n) (hB : B ≤ w.heap.size) (hown : w.ownsRow B 48 3 v n (F.flatMap encR)) (hg : w.heap[g]? = some (.cells #[hdV X.1.1, hdV X.2.1.1, .int .i64 X.2.2] 48 (0, 0))) (hne : v.ownBlock ≠ some g) :
    Calls Try.prog 56 #[v, .int .i64 (n : Int), .slice (some ⟨g, 0, none⟩) 1 1] w fun e w' => ∃ v', e = .returned v' ∧ w'.ownsRow B 48 3 v' (n + 1) ((insF F n X).flatMap encR) ∧ w.grownBy w' v.ownBlock := by
  have hcX : Comes w 3 encR (fun _ => True) (some ⟨g, 0, none⟩) 1 1 [X] := Comes.block hg (by simp [encR]) encR_len rfl (Nat.le_refl _) (by decide) (fun _ _ => trivial)
  obtain ⟨A, c, rfl, hnl, hcF⟩ := Comes.of_own (okA := fun _ => True) hown encR_len (by decide) (fun _ _ => trivial)
  have hcap : c ≤ 9223372036854775807 := hcF.cap
  have hle := hcF.le
  have HO := Lib.hid (And.intro hown hcX)
  have HE : Hid ((insF F n X).flatMap encR = F.flatMap encR ++ [X].flatMap encR) := Lib.hid (by unfold insF; rw [List.take_of_length_le (by omega), List.drop_of_length_le (by omega), List.flatMap_append])
  clear hown hcX hcF hg hne hnl hl
  cases A with
  | none =>
    have hn0 : n = 0 := by
      rcases HO.out.1.2 with ⟨hv, h⟩ | ⟨g', cap, cur, hv, _⟩
      · exact h
      · cases hv
    subst hn0
    go_enter Try.func56, Try.ntmps56
    go_wp2_with (at_builtin; (refine wpList_append_comesK rfl _ _ 26 rfl B 48 (.agg #[.slice none 0 0, .slice none 0 0, .int .i64 0]) 3 56 Try.underlying26 elemR rfl (by decide) w HO.out.1 rfl rfl HO.out.2 encR_len encR_one (by omega) (by omega) hB ?_); intro v' w' hown' hg'; have HZ := Lib.hid (And.intro hown' hg'); clear hown' hg')
    go_ret
    exact ⟨_, rfl, by rw [HE.out]; exact HZ.out.1, HZ.out.2⟩
  | some a =>
    go_enter Try.func56, Try.ntmps56
    go_wp2_with (at_builtin; (refine wpList_append_comesK rfl _ _ 26 rfl B 48 (.agg #[.slice none 0 0, .slice none 0 0, .int .i64 0]) 3 56 Try.underlying26 elemR rfl (by decide) w HO.out.1 rfl rfl HO.out.2 encR_len encR_one (by omega) (by omega) hB ?_); intro v' w' hown' hg'; have HZ := Lib.hid (And.intro hown' hg'); clear hown' hg')
    all_goals (
      go_ret
      exact ⟨_, rfl, by rw [HE.out]; exact HZ.out.1, HZ.out.2⟩)
/-- .. and as one step of a region that draws. -/
theorem step_copy_runI {P : Program} {ops : Array Oper} {o : Oper} {a : Act} {w : World} {K : Act → World → Prop} {Q : Exit → Act → World → Prop} {E : Prop}
    (hg : o.guard = none) (d x : Operand) (dT sT : TypeId) (hop : o.op = Op.call { callee := Callee.builtin Builtin.copy, args := #[d, x], argTypes := #[dT, sT] })
    (v u : Value) (hd : a.eval d = v) (hx : a.eval x = u) {v' : Value} {w' : World} (hr : (Builtin.copy_ #[dT, sT] o.type #[v, u]).run P w = .ok v' w') (hK : K (a.put o.dst v') w') :
    if Region.wanted o (yielded ops a.tmps) = true then Oper.wp P o a w K Q else E := by
  have hw : Region.wanted o (yielded ops a.tmps) = true := by simp [Region.wanted, hg]
  rw [if_pos hw]
  unfold Oper.wp
  simp [execOp, hop, resolve, invoke, builtin, hd, hx, hr, Result.andThen]
  exact hK
theorem flat_take (F : List SerH) (i : Nat) : (F.flatMap encR).take (i * 3) = (F.take i).flatMap encR := by
  induction F generalizing i with
  | nil => simp
  | cons x F ih =>
    cases i with
    | zero => simp
    | succ i =>
      rw [List.flatMap_cons, List.take_succ_cons, List.flatMap_cons, ← ih i, show (i + 1) * 3 = (encR x).length + i * 3 by rw [encR_len]; omega, List.take_length_add_append]
theorem flat_drop (F : List SerH) (i : Nat) : (F.flatMap encR).drop (i * 3) = (F.drop i).flatMap encR := by
  induction F generalizing i with
  | nil => simp
  | cons x F ih =>
    cases i with
    | zero => simp
    | succ i =>
      rw [List.flatMap_cons, List.drop_succ_cons, ← ih i, show (i + 1) * 3 = (encR x).length + i * 3 by rw [encR_len]; omega, List.drop_length_add_append]
set_option maxRecDepth 20000 in
set_option maxHeartbeats 8000000 in
theorem insert_shift (B b n c i : Nat) (cur : Array Value) (F : List SerH) (X : SerH) (g : Nat) (w : World) (hn : n ≤ 1000) (hl : F.length = n) (hi : i < n) (hroom : n + 1 ≤ c) (hcap : c ≤ 9223372036854775807) (hb : w.heap[b]? = some (.cells cur 48 (0, 0))) (hcs : cur.size = c * 3) (hcur : cur.toList.take (n * 3) = F.flatMap encR) (hg : w.heap[g]? = some (.cells #[hdV X.1.1, hdV X.2.1.1, .int .i64 X.2.2] 48 (0, 0))) (hne : b ≠ g) :
    Calls Try.prog 56 #[.slice (some ⟨b, 0, none⟩) n c, .int .i64 (i : Int), .slice (some ⟨g, 0, none⟩) 1 1] w fun e w' => ∃ cur', e = .returned (.slice (some ⟨b, 0, none⟩) (n + 1) c) ∧ cur'.size = c * 3 ∧ cur'.toList.take ((n + 1) * 3) = (insF F i X).flatMap encR ∧ w' = w.drew.setRow b cur' := by
  have hsz : (Try.prog.info? 48).map (·.size) = some 3 := by kernel_rfl
  have hov : ∀ lb cb, (callFunc 70 #[.slice (some ⟨g, 0, none⟩) 1 1, .slice (some ⟨b, (i + 1) * 3, none⟩) lb cb]).run Try.prog w = .ok (.value (.bool false)) w := fun lb cb => by
    rw [run_callFunc_extern Try.func70 (by kernel_rfl) (by kernel_rfl) (by kernel_rfl) (e := Extern.SlicesOverlaps.overlaps #[26, 26] #[4]) (by kernel_rfl),
      Lib.run_overlaps_apart w 26 4 48 Try.underlying26 3 Try.sizeOf48 ⟨g, 0, none⟩ ⟨b, (i + 1) * 3, none⟩ 1 1 lb cb (fun e => hne e.symm) 48 48 3 (c * 3) (by simp [World.shape?, hg]) (by simp [World.shape?, hb, hcs]) (by omega) (frozen_of_row _ _ _ _ _ hg) (frozen_of_row _ _ _ _ _ hg)]
    rfl
  have mixed : Try.prog.follows Departure.mixedOrders = true := by kernel_rfl
  have hw1 : IntKind.i64.wrap ((i : Int) + 1) = (i : Int) + 1 := by rw [IntKind.wrap_i64]; omega
  have hz2 : ¬ ((i : Int) = (n : Int)) := by omega
  have hb1 : (0 : Int) ≤ (i : Int) + 1 := by omega
  have htn : ((i : Int) + 1).toNat = i + 1 := by omega
  have hb2 : ¬ (c = i + 1) := by omega
  have hb3 : (i : Int) ≤ (n : Int) + 1 := by omega
  have hb4 : ¬ (c = i) := by omega
  have hb5 : i ≤ n := by omega
  have hFl : (F.flatMap encR).length = n * 3 := by rw [flatMap_len encR_len, hl]
  have hone : ∀ u ∈ F.flatMap encR, u.oneCell' = true := fun u hu => by
    obtain ⟨y, _, hy⟩ := List.mem_flatMap.1 hu
    exact encR_one y u hy
  obtain ⟨x1, hx1⟩ : ∃ x1, (F.flatMap encR).drop (i * 3) = x1 := ⟨_, rfl⟩
  have hx1l : x1.length = (n - i) * 3 := by rw [← hx1, List.length_drop, hFl, Nat.sub_mul]
  have hcul : cur.toList.length = c * 3 := by rw [Array.length_toList, hcs]
  have hxs : ∀ j v, x1[j]? = some v → w.drew.cell? ((⟨b, i * 3, none⟩ : Addr).add j) = some v := fun j v hj => by
    rw [← hx1, List.getElem?_drop] at hj
    have hj2 : i * 3 + j < n * 3 := by have := (List.getElem?_eq_some_iff.1 hj).1; rw [hFl] at this; exact this
    rw [← hcur, List.getElem?_take_of_lt hj2] at hj
    rw [Addr.add_lit]
    show w.cell? _ = _
    rw [cell_of_row _ _ _ _ _ _ hb, ← Array.getElem?_toList]
    exact hj
  obtain ⟨cur1, hcur1⟩ : ∃ cur1 : Array Value, (cur.toList.take ((i + 1) * 3) ++ x1 ++ cur.toList.drop ((i + 1) * 3 + x1.length)).toArray = cur1 := ⟨_, rfl⟩
  have hcp1 : ∀ ty dc sc, (Builtin.copy_ #[26, 26] ty #[.slice (some ⟨b, (i + 1) * 3, none⟩) (n - i) dc, .slice (some ⟨b, i * 3, none⟩) (n + 1 - i) sc]).run Try.prog w.drew = .ok (goInt (Nat.min (n + 1 - i) (n - i))) (w.drew.setRow b cur1) := fun ty dc sc => by
    rw [← hcur1]
    exact run_copy_rowN w.drew 26 26 ty 48 3 b ((i + 1) * 3) (n - i) dc ⟨b, i * 3, none⟩ (n + 1 - i) sc cur 48 x1 Try.underlying26 hsz hb (by rw [hx1l, show Nat.min (n + 1 - i) (n - i) = n - i by simp only [Nat.min_def]; split <;> omega]) hxs (by rw [hx1l, hcs]; omega) (fun v hv => hone v (by rw [← hx1] at hv; exact List.mem_of_mem_drop hv))
  have hb1' : (w.drew.setRow b cur1).heap[b]? = some (.cells cur1 48 (0, 0)) := setRow_heap w.drew b cur cur1 _ _ hb
  have hg1' : (w.drew.setRow b cur1).heap[g]? = some (.cells #[hdV X.1.1, hdV X.2.1.1, .int .i64 X.2.2] 48 (0, 0)) := (setRow_other _ _ _ _ (fun e => hne e.symm)).trans hg
  have hc1l : cur1.toList.length = c * 3 := by
    rw [← hcur1]
    simp only [List.length_append, List.length_take, List.length_drop, hx1l, hcul]
    omega
  obtain ⟨cur2, hcur2⟩ : ∃ cur2 : Array Value, (cur1.toList.take (i * 3) ++ encR X ++ cur1.toList.drop (i * 3 + 3)).toArray = cur2 := ⟨_, rfl⟩
  have hcp2 : ∀ ty dc, (Builtin.copy_ #[26, 26] ty #[.slice (some ⟨b, i * 3, none⟩) (n + 1 - i) dc, .slice (some ⟨g, 0, none⟩) 1 1]).run Try.prog (w.drew.setRow b cur1) = .ok (goInt (Nat.min 1 (n + 1 - i))) ((w.drew.setRow b cur1).setRow b cur2) := fun ty dc => by
    rw [← hcur2]
    exact run_copy_rowN (w.drew.setRow b cur1) 26 26 ty 48 3 b (i * 3) (n + 1 - i) dc ⟨g, 0, none⟩ 1 1 cur1 48 (encR X) Try.underlying26 hsz hb1' (by rw [encR_len, show Nat.min 1 (n + 1 - i) = 1 by simp only [Nat.min_def]; split <;> omega]) (fun j v hj => by
      rw [Addr.add_lit, cell_of_row _ _ _ _ _ _ hg1', ← Array.getElem?_toList]
      simpa [encR] using hj) (by rw [encR_len, ← Array.length_toList, hc1l]; omega) (encR_one X)
  rw [setRow_setRow] at hcp2
  -- what the row holds in the end
  have HE : Hid (cur2.size = c * 3 ∧ cur2.toList.take ((n + 1) * 3) = (insF F i X).flatMap encR) := Lib.hid (by
    have e0 : cur.toList.take (i * 3) = (F.flatMap encR).take (i * 3) := by
      rw [← hcur, List.take_take, Nat.min_eq_left (by omega)]
    have e1 : cur1.toList.take (i * 3) = (F.flatMap encR).take (i * 3) := by
      rw [← hcur1, ← e0]
      simp only []
      rw [List.append_assoc, List.take_append_of_le_length (by rw [List.length_take, hcul]; omega), List.take_take, Nat.min_eq_left (by omega)]
    have e2 : cur1.toList.drop (i * 3 + 3) = x1 ++ cur.toList.drop ((n + 1) * 3) := by
      rw [← hcur1]
      simp only []
      have hl1 : (cur.toList.take ((i + 1) * 3)).length = i * 3 + 3 := by rw [List.length_take, hcul]; omega
      rw [List.append_assoc, ← hl1, List.drop_left, hx1l, show (i + 1) * 3 + (n - i) * 3 = (n + 1) * 3 by omega]
    have e3 : cur2.toList = (F.flatMap encR).take (i * 3) ++ encR X ++ (x1 ++ cur.toList.drop ((n + 1) * 3)) := by
      rw [← hcur2, ← e1, ← e2]
    have hl0 : ((F.flatMap encR).take (i * 3)).length = i * 3 := by rw [List.length_take, hFl]; omega
    constructor
    · rw [← Array.length_toList, e3]
      simp only [List.length_append, List.length_drop, hl0, encR_len, hx1l, hcul]
      omega
    · rw [e3, ← List.append_assoc, List.take_append_of_le_length (by simp only [List.length_append, hl0, encR_len, hx1l]; omega), List.take_of_length_le (by simp only [List.length_append, hl0, encR_len, hx1l]; omega), ← hx1, flat_take, flat_drop]
      unfold insF
      rw [List.flatMap_append, List.flatMap_cons, List.append_assoc])
  clear hFl hone hx1 hx1l hcul hxs hcur1 hb1' hg1' hc1l hcur2 hcur hcs hl
  go_enter Try.func56, Try.ntmps56
  go_wp2_with (simp only [hov])
  go_region_law_o (refine step_copy_runI rfl _ _ 26 26 rfl (.slice (some ⟨b, (i + 1) * 3, none⟩) (n - i) (c - (i + 1))) (.slice (some ⟨b, i * 3, none⟩) (n + 1 - i) (c - i)) (by simp [Act.eval, Act.put]) (by simp [Act.eval, Act.put]) (hcp1 _ _ _) ?_)
  go_wp2_with (at_builtin; refine wpList_copy_runI _ rfl _ _ 26 26 rfl _ _ rfl rfl (hcp2 _ _) ?_)
  go_ret
  exact ⟨cur2, rfl, HE.out.1, HE.out.2, rfl⟩
theorem zc_len (z : Array Value) (n : Nat) : (Builtin.zeroCells z n).toList.length = n * z.size := by simp [Builtin.zeroCells]
set_option maxRecDepth 20000 in
set_option maxHeartbeats 8000000 in
theorem insert_grow (b n c i : Nat) (cur : Array Value) (F : List SerH) (X : SerH) (g : Nat) (w : World) (hn : n ≤ 1000) (hl : F.length = n) (hi : i < n) (hnc : n ≤ c) (hroom : c < n + 1) (hb : w.heap[b]? = some (.cells cur 48 (0, 0))) (hcs : cur.size = c * 3) (hcur : cur.toList.take (n * 3) = F.flatMap encR) (hg : w.heap[g]? = some (.cells #[hdV X.1.1, hdV X.2.1.1, .int .i64 X.2.2] 48 (0, 0))) :
    Calls Try.prog 56 #[.slice (some ⟨b, 0, none⟩) n c, .int .i64 (i : Int), .slice (some ⟨g, 0, none⟩) 1 1] w fun e w' => ∃ v', e = .returned v' ∧ w'.ownsRow w.heap.size 48 3 v' (n + 1) ((insF F i X).flatMap encR) ∧ Below w.heap.size w w' := by
  have hsz : (Try.prog.info? 48).map (·.size) = some 3 := by kernel_rfl
  have mixed : Try.prog.follows Departure.mixedOrders = true := by kernel_rfl
  obtain ⟨i0, hi0, hz0, hzs, hzb⟩ := info_parts elemR
  have hc : c = n := by omega
  subst hc
  have hw1 : IntKind.i64.wrap ((i : Int) + 1) = (i : Int) + 1 := by rw [IntKind.wrap_i64]; omega
  have hz2 : ¬ ((i : Int) = (c : Int)) := by omega
  have hz3 : (c : Int) < (c : Int) + 1 := by omega
  have hkk : (c : Int) + 1 - (i : Int) = ((c + 1 - i : Nat) : Int) := by omega
  have hik : i + (c + 1 - i) = c + 1 := by omega
  have hFl : (F.flatMap encR).length = c * 3 := by rw [flatMap_len encR_len, hl]
  have hone : ∀ u ∈ F.flatMap encR, u.oneCell' = true := fun u hu => by
    obtain ⟨y, _, hy⟩ := List.mem_flatMap.1 hu
    exact encR_one y u hy
  have hbw : b < w.heap.size := (Array.getElem?_eq_some_iff.1 hb).1
  have hgw : g < w.heap.size := (Array.getElem?_eq_some_iff.1 hg).1
  have hcl : ∀ j v, (F.flatMap encR)[j]? = some v → w.cell? ⟨b, j, none⟩ = some v := fun j v hj => by
    have hj2 : j < c * 3 := by have := (List.getElem?_eq_some_iff.1 hj).1; rw [hFl] at this; exact this
    rw [← hcur, List.getElem?_take_of_lt hj2] at hj
    rw [cell_of_row _ _ _ _ _ _ hb, ← Array.getElem?_toList]
    exact hj
  obtain ⟨x0, hx0⟩ : ∃ x0, (F.flatMap encR).take (i * 3) = x0 := ⟨_, rfl⟩
  obtain ⟨x1, hx1⟩ : ∃ x1, (F.flatMap encR).drop (i * 3) = x1 := ⟨_, rfl⟩
  have hx0l : x0.length = i * 3 := by rw [← hx0, List.length_take, hFl]; omega
  have hx1l : x1.length = (c - i) * 3 := by rw [← hx1, List.length_drop, hFl, Nat.sub_mul]
  have hold : (Builtin.firstCells i0.size i (.slice (some ⟨b, 0, none⟩) i c)).run Try.prog w.drew = .ok x0.toArray w.drew := by
    rw [hzs]
    exact run_firstCells_some w.drew 3 i ⟨b, 0, none⟩ i c x0 hx0l (fun j v hj => by
      rw [← hx0, List.getElem?_take] at hj
      split at hj
      · rw [Addr.add_lit, Nat.zero_add]; exact hcl j v hj
      · cases hj)
  obtain ⟨G, hG⟩ : ∃ G, grownCap w (c + 1) c 48 = G := ⟨_, rfl⟩
  have hGn : c + 1 ≤ G := by rw [← hG]; exact grownCap_ge w _ _ _
  have hG63 : G ≤ maxLen := by rw [← hG]; exact grownCap_le_maxLen w (c + 1) c 48 (by unfold maxLen; omega)
  have hG64 : G ≤ 9223372036854775807 := hG63
  obtain ⟨Z, hZ⟩ : ∃ Z, (Value.agg #[.slice none 0 0, .slice none 0 0, .int .i64 0]).cells = Z := ⟨_, rfl⟩
  have hZs : Z.size = 3 := by rw [← hZ]; rfl
  obtain ⟨ROW, hROW⟩ : ∃ ROW : Array Value, x0.toArray ++ Builtin.zeroCells Z (c + 1 - i) ++ Builtin.zeroCells Z (G - (c + 1)) = ROW := ⟨_, rfl⟩
  have hRl : ROW.toList.length = G * 3 := by
    rw [← hROW]
    simp only [Array.toList_append, List.length_append, zc_len, hZs, hx0l]
    omega
  have hR0 : ROW.toList.take (i * 3) = x0 := by
    rw [← hROW]
    simp only [Array.toList_append]
    rw [List.append_assoc, List.take_append_of_le_length (by rw [hx0l]; exact Nat.le_refl _), List.take_of_length_le (by rw [hx0l]; exact Nat.le_refl _)]
  have hrz : ∀ ty, (Builtin.append_ #[26, 3] ty #[.slice (some ⟨b, 0, none⟩) i c, .int .i64 ((c : Int) + 1 - (i : Int))]).run Try.prog w =
      .ok (.slice (some ⟨w.heap.size, 0, none⟩) (c + 1) G) (w.drew.alloc (.cells ROW 48)) := fun ty => by
    have h := Lib.run_append_grow_zeros w 26 3 ty 48 i0 _ .i64 .i64 Try.underlying26 Try.underlying3 hi0 hz0 (some ⟨b, 0, none⟩) i c x0 hold (c + 1 - i) (by omega) (by omega) (by omega) (by omega) (by rw [hzb]; omega) (by rw [hzb, hik]; exact growslice_fits (by omega) (by omega))
    rw [hik, hG, hZ, hROW] at h
    rw [hkk]
    exact h
  -- the new row, step by step
  obtain ⟨W1, hW1⟩ : ∃ W1, (w.alloc (.cells ROW 48 (0, 0))).drew = W1 := ⟨_, rfl⟩
  have hN1 : W1.heap[w.heap.size]? = some (.cells ROW 48 (0, 0)) := by rw [← hW1]; exact heap_alloc_new w _
  have hb1 : W1.heap[b]? = some (.cells cur 48 (0, 0)) := by rw [← hW1]; exact (Below.heap_alloc w _ _ hbw).trans hb
  have hg1 : W1.heap[g]? = some (.cells #[hdV X.1.1, hdV X.2.1.1, .int .i64 X.2.2] 48 (0, 0)) := by rw [← hW1]; exact (Below.heap_alloc w _ _ hgw).trans hg
  obtain ⟨R1, hR1⟩ : ∃ R1 : Array Value, (ROW.toList.take (i * 3) ++ encR X ++ ROW.toList.drop (i * 3 + 3)).toArray = R1 := ⟨_, rfl⟩
  have hcpA : ∀ (W : World), W.heap[w.heap.size]? = some (.cells ROW 48 (0, 0)) → W.heap[g]? = some (.cells #[hdV X.1.1, hdV X.2.1.1, .int .i64 X.2.2] 48 (0, 0)) → ∀ ty dc, (Builtin.copy_ #[26, 26] ty #[.slice (some ⟨w.heap.size, i * 3, none⟩) (c + 1 - i) dc, .slice (some ⟨g, 0, none⟩) 1 1]).run Try.prog W = .ok (goInt (Nat.min 1 (c + 1 - i))) (W.setRow w.heap.size R1) := fun W hWN hWg ty dc => by
    rw [← hR1]
    exact run_copy_rowN W 26 26 ty 48 3 w.heap.size (i * 3) (c + 1 - i) dc ⟨g, 0, none⟩ 1 1 ROW 48 (encR X) Try.underlying26 hsz hWN (by rw [encR_len, show Nat.min 1 (c + 1 - i) = 1 by simp only [Nat.min_def]; split <;> omega]) (fun j v hj => by
      rw [Addr.add_lit, cell_of_row _ _ _ _ _ _ hWg, ← Array.getElem?_toList]
      simpa [encR] using hj) (by rw [encR_len, ← Array.length_toList, hRl]; omega) (encR_one X)
  have hR1l : R1.toList.length = G * 3 := by
    rw [← hR1]
    simp only [List.length_append, List.length_take, List.length_drop, hRl, encR_len]
    omega
  obtain ⟨R2, hR2⟩ : ∃ R2 : Array Value, (R1.toList.take ((i + 1) * 3) ++ x1 ++ R1.toList.drop ((i + 1) * 3 + x1.length)).toArray = R2 := ⟨_, rfl⟩
  have hcpB : ∀ (W : World), W.heap[w.heap.size]? = some (.cells R1 48 (0, 0)) → W.heap[b]? = some (.cells cur 48 (0, 0)) → ∀ ty dc sc, (Builtin.copy_ #[26, 26] ty #[.slice (some ⟨w.heap.size, (i + 1) * 3, none⟩) (c - i) dc, .slice (some ⟨b, i * 3, none⟩) (c - i) sc]).run Try.prog W = .ok (goInt (Nat.min (c - i) (c - i))) (W.setRow w.heap.size R2) := fun W hWN hWb ty dc sc => by
    rw [← hR2]
    exact run_copy_rowN W 26 26 ty 48 3 w.heap.size ((i + 1) * 3) (c - i) dc ⟨b, i * 3, none⟩ (c - i) sc R1 48 x1 Try.underlying26 hsz hWN (by rw [hx1l, show Nat.min (c - i) (c - i) = c - i by simp only [Nat.min_def]; split <;> omega]) (fun j v hj => by
      rw [← hx1, List.getElem?_drop] at hj
      have hj2 : i * 3 + j < c * 3 := by have := (List.getElem?_eq_some_iff.1 hj).1; rw [hFl] at this; exact this
      rw [← hcur, List.getElem?_take_of_lt hj2] at hj
      rw [Addr.add_lit, cell_of_row _ _ _ _ _ _ hWb, ← Array.getElem?_toList]
      exact hj) (by rw [hx1l, ← Array.length_toList, hR1l]; omega) (fun v hv => hone v (by rw [← hx1] at hv; exact List.mem_of_mem_drop hv))
  have HE : Hid (R2.size = G * 3 ∧ R2.toList.take ((c + 1) * 3) = (insF F i X).flatMap encR) := Lib.hid (by
    have e1 : R1.toList.take ((i + 1) * 3) = x0 ++ encR X := by
      rw [← hR1]
      simp only []
      rw [hR0, List.take_append_of_le_length (by rw [List.length_append, hx0l, encR_len]; omega), List.take_of_length_le (by rw [List.length_append, hx0l, encR_len]; omega)]
    have e3 : R2.toList = x0 ++ encR X ++ x1 ++ R1.toList.drop ((i + 1) * 3 + x1.length) := by rw [← hR2, ← e1]
    constructor
    · rw [← Array.length_toList, e3]
      simp only [List.length_append, List.length_drop, hx0l, encR_len, hx1l, hR1l]
      omega
    · rw [e3, List.take_append_of_le_length (by simp only [List.length_append, hx0l, encR_len, hx1l]; omega), List.take_of_length_le (by simp only [List.length_append, hx0l, encR_len, hx1l]; omega), ← hx0, ← hx1, flat_take, flat_drop]
      unfold insF
      rw [List.flatMap_append, List.flatMap_cons, List.append_assoc])
  have hb3 : (i : Int) ≤ (c : Int) := by omega
  have hb5 : i ≤ c := by omega
  have hGi : ¬ (G = i) := by omega
  have hGim : ¬ (G = i + 1) := by omega
  have hci : ¬ (c = i) := by omega
  have hbp : (0 : Int) ≤ (i : Int) + 1 := by omega
  have htn : ((i : Int) + 1).toNat = i + 1 := by omega
  have hbN : b ≠ w.heap.size := by omega
  have hgN : g ≠ w.heap.size := by omega
  have HB : Hid (∀ W : World, W = (W1.setRow w.heap.size R1).drew.setRow w.heap.size R2 → W.ownsRow w.heap.size 48 3 (.slice (some ⟨w.heap.size, 0, none⟩) (c + 1) G) (c + 1) ((insF F i X).flatMap encR) ∧ Below w.heap.size w W) := Lib.hid (fun W h => by
    subst h
    have hlI : ((insF F i X).flatMap encR).length = (c + 1) * 3 := by
      rw [flatMap_len encR_len]; unfold insF; simp; omega
    refine ⟨⟨hlI, .inr ⟨w.heap.size, G, R2, rfl, Nat.le_refl _, setRow_heap _ _ _ _ _ _ (show (W1.setRow w.heap.size R1).drew.heap[w.heap.size]? = some (.cells R1 48 (0, 0)) from setRow_heap _ _ _ _ _ _ hN1), hGn, hG63, HE.out.1, HE.out.2⟩⟩, ?_⟩
    have h0 : Below w.heap.size w W1 := by rw [← hW1]; exact (⟨rfl, rfl, rfl, by simp, fun k hk => Below.heap_alloc w _ _ hk⟩ : Below w.heap.size w (w.alloc _).drew)
    have h1 := below_setRow h0 (Nat.le_refl _) R1
    exact below_setRow (show Below w.heap.size w (W1.setRow w.heap.size R1).drew from ⟨h1.os, h1.tape, h1.output, h1.size, h1.block⟩) (Nat.le_refl _) _)
  subst hW1
  have hA1 := hcpA _ hN1 hg1
  have hA2 := hcpB ((w.alloc (.cells ROW 48 (0, 0))).drew.setRow w.heap.size R1).drew (setRow_heap _ _ _ _ _ _ hN1) ((setRow_other _ _ _ _ hbN).trans hb1)
  clear hkk hik hold hROW hG hRl hFl hone hcl hx0 hx1 hx0l hx1l hR0 hR1 hR1l hR2 hcpA hcpB hN1 hb1 hg1 hcur hcs hl hZ hZs hi0 hz0 hzs hzb
  go_enter Try.func56, Try.ntmps56
  go_wp2_with (first
    | (at_builtin; refine Lib.wpList_append_run _ rfl _ _ _ _ rfl _ _ rfl rfl _ _ (hrz _) ?_)
    | (at_builtin; refine wpList_copy_runI _ rfl _ _ 26 26 rfl _ _ rfl rfl (hA1 _ _) ?_))
  go_region_law_o (refine step_copy_runI rfl _ _ 26 26 rfl (.slice (some ⟨w.heap.size, (i + 1) * 3, none⟩) (c - i) (G - (i + 1))) (.slice (some ⟨b, i * 3, none⟩) (c - i) (c - i)) (by simp [Act.eval, Act.put]) (by simp [Act.eval, Act.put]) (hA2 _ _ _) ?_)
  go_wp2
  go_ret
  have := HB.out _ rfl
  exact ⟨_, rfl, this.1, this.2⟩
end Go.Proofs.Ytdjgndnllaingaa.TrW
