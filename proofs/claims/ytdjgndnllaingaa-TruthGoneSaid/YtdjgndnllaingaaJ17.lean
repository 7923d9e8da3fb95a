/-
  ROWS OF SERIES IN MEMORY; slices.IndexFunc, ContainsFunc, Clone AT SERIES AND SAMPLES.
-/
import Derived.Test.YtdjgndnllaingaaJ16
import Derived.Test.YtdjgndnllaingaaJ11
/-
  ROWS OF SERIES IN MEMORY; slices.IndexFunc, ContainsFunc, Clone AT SERIES AND SAMPLES.
-/
namespace Go.Proofs.Ytdjgndnllaingaa.TrW
set_option linter.unusedVariables false
open Go.RowKit Go.Shelf LabM LbM LabW FrW TrM
/-- A slice's head, and what is in it. -/
abbrev Hd (α : Type) := (Option Addr × Nat × Nat) × List α
def hdV (x : Option Addr × Nat × Nat) : Value := .slice x.1 x.2.1 x.2.2
abbrev SerH := Hd Lab × Hd Sam × Int
def encR (x : SerH) : List Value := [hdV x.1.1, hdV x.2.1.1, .int .i64 x.2.2]
def serV (x : SerH) : Value := .agg #[hdV x.1.1, hdV x.2.1.1, .int .i64 x.2.2]
structure okR (w : World) (x : SerH) : Prop where
  lab : Comes w 2 encL okL x.1.1.1 x.1.1.2.1 x.1.1.2.2 x.1.2
  sam : Comes w 2 encS okS x.2.1.1.1 x.2.1.1.2.1 x.2.1.1.2.2 x.2.1.2
  last : -9223372036854775808 ≤ x.2.2 ∧ x.2.2 ≤ 9223372036854775807
theorem okR.later {w w' : World} {x : SerH} (h : okR w x) (hb : Below w.heap.size w w') : okR w' x := ⟨h.lab.later hb, h.sam.later hb, h.last⟩
/-- The series that it is. -/
def absR (x : SerH) : Ser := (x.1.2, x.2.1.2, x.2.2)
/-- A slice of series. -/
structure Sers (w : World) (A : Option Addr) (n c : Nat) (hs : List SerH) : Prop where
  row : Comes w 3 encR (fun _ => True) A n c hs
  ok : ∀ x ∈ hs, okR w x
theorem Sers.later {w w' : World} {A : Option Addr} {n c : Nat} {hs : List SerH} (h : Sers w A n c hs) (hb : Below w.heap.size w w') : Sers w' A n c hs := ⟨h.row.later hb, fun x hx => (h.ok x hx).later hb⟩
theorem Sers.nil (w : World) : Sers w none 0 0 [] := ⟨Comes.nil _ _ _ _, fun x hx => by cases hx⟩
theorem Sers.cells {w : World} {A : Option Addr} {n c : Nat} {hs : List SerH} (h : Sers w A n c hs) {k : Nat} (hk : k < hs.length) :
    ∃ b o, A = some ⟨b, o, none⟩ ∧ b < w.heap.size ∧ ∀ W, Below w.heap.size w W → W.cell? ⟨b, o + k * 3, none⟩ = some (hdV hs[k].1.1) ∧ W.cell? ⟨b, o + k * 3 + 1, none⟩ = some (hdV hs[k].2.1.1) ∧ W.cell? ⟨b, o + k * 3 + 2, none⟩ = some (.int .i64 hs[k].2.2) := by
  obtain ⟨b, o, hA, hb, hc⟩ := h.row.lies.all hk
  exact ⟨b, o, hA, hb, fun W hW => ⟨hc W hW 0 _ rfl, hc W hW 1 _ rfl, hc W hW 2 _ rfl⟩⟩
theorem encR_len (x : SerH) : (encR x).length = 3 := rfl
theorem encR_one (x : SerH) : ∀ u ∈ encR x, u.oneCell' = true := by
  intro u hu
  simp [encR, hdV] at hu
  rcases hu with rfl | rfl | rfl <;> rfl
theorem elemR : Elem Try.prog 48 (.agg #[.slice none 0 0, .slice none 0 0, .int .i64 0]) 3 56 := by unfold Elem; kernel_rfl
/-- Where the first is for which it holds. -/
def fstI {α : Type} (p : α → Bool) (l : List α) : Int := match l.findIdx? p with
  | none => -1
  | some i => (i : Int)
theorem findIdx_drop {α : Type} (p : α → Bool) (l : List α) (k : Nat) (hk : k ≤ l.length) (h : ∀ j (hj : j < k), p (l[j]'(by omega)) = false) : l.findIdx? p = ((l.drop k).findIdx? p).map (· + k) := by
  induction k with
  | zero => simp
  | succ k ih =>
    rw [ih (by omega) (fun j hj => h j (by omega)), List.drop_eq_getElem_cons (by omega), List.findIdx?_cons, h k (by omega)]
    simp only [Bool.false_eq_true, if_false, Option.map_map]
    congr 1
    funext x
    simp
    omega
theorem fstI_at {α : Type} (p : α → Bool) (l : List α) (k : Nat) (hk : k < l.length) (h : ∀ j (hj : j < k), p (l[j]'(by omega)) = false) (hp : p l[k] = true) : fstI p l = (k : Int) := by
  unfold fstI
  rw [findIdx_drop p l k (by omega) h, List.drop_eq_getElem_cons hk, List.findIdx?_cons, hp]
  simp
theorem fstI_end {α : Type} (p : α → Bool) (l : List α) (h : ∀ j (hj : j < l.length), p l[j] = false) : fstI p l = -1 := by
  unfold fstI
  have : l.findIdx? p = none := by
    rw [List.findIdx?_eq_none_iff]
    intro x hx
    obtain ⟨i, hi, rfl⟩ := List.getElem_of_mem hx
    exact h i hi
  rw [this]
theorem fstI_ge {α : Type} (p : α → Bool) (l : List α) : -1 ≤ fstI p l ∧ fstI p l < (l.length : Int) := by
  unfold fstI
  cases h : l.findIdx? p with
  | none => simp only []; omega
  | some i =>
    rw [List.findIdx?_eq_some_iff_getElem] at h
    obtain ⟨hi, -⟩ := h
    simp only []
    omega
set_option maxRecDepth 20000 in
set_option maxHeartbeats 1000000 in
theorem indexR_any (G : FuncId) (lb : Array Value) (p : SerH → Bool) (hent : ∀ args w, (callFunc G args).run Try.prog w = .ok (.enter G args) w) (A : Option Addr) (n c : Nat) (hs : List SerH) (w : World) (hl : Sers w A n c hs) (hn : n ≤ 1000000)
    (hG : ∀ x ∈ hs, ∀ W, Below w.heap.size w W → Calls Try.prog G (#[serV x] ++ lb) W fun e W' => e = .returned (.bool (p x)) ∧ Below W.heap.size W W') :
    Calls Try.prog 32 #[.slice A n c, .func (.func G) #[] lb] w fun e w' => e = .returned (.int .i64 (fstI p hs)) ∧ Below w.heap.size w w' := by
  have HL := Lib.hid hl
  have HG := Lib.hid hG
  have hcap : c ≤ 9223372036854775807 := hl.row.cap
  have hle := hl.row.le
  clear hl hG
  go_enter Try.func32, Try.ntmps32
  go_wp2_with fail
  go_loopw [8] (fun v8 wr => ∃ k : Nat, k ≤ n ∧ v8 = .int .i64 k ∧ (∀ j (hj : j < k) (hj2 : j < hs.length), p hs[j] = false) ∧ Below w.heap.size w wr) (fun v8 _ => n - (intOf v8).toNat)
  case atStart => exact ⟨0, Nat.zero_le _, rfl, fun j hj => by omega, Below.refl _ _⟩
  case round =>
    obtain ⟨k, hk, rfl, hno, ho⟩ := hrel
    have hln := HL.out.row.len
    by_cases hlt : k < n
    · have hkl : k < hs.length := by omega
      obtain ⟨b, o, rfl, -, hcs⟩ := HL.out.cells hkl
      obtain ⟨hc0, hc1, hc2⟩ := hcs _ ho
      have hpx := HG.out _ (List.getElem_mem hkl)
      have HAT : Hid (p hs[k] = true → fstI p hs = (k : Int)) := Lib.hid (fun h => fstI_at p hs k hkl (fun j hj => hno j hj (by omega)) h)
      have HNO : Hid (p hs[k] = false → ∀ j (hj : j < k + 1) (hj2 : j < hs.length), p hs[j] = false) := Lib.hid (fun h j hj hj2 => by
        by_cases e : j = k
        · subst e; exact h
        · exact hno j (by omega) hj2)
      have HRNG := fstI_ge p hs
      generalize hs[k] = x at *
      obtain ⟨⟨⟨A1, n1, c1⟩, L⟩, ⟨⟨A2, n2, c2⟩, S⟩, T⟩ := x
      unfold hdV at hc0 hc1
      unfold serV hdV at hpx
      simp only [] at hc0 hc1 hc2 hpx
      have HO := Lib.hid ho
      have HP := Lib.hid hpx
      have i0 : (0 : Int) ≤ (k : Int) := by omega
      have i1 : (k : Int) < (n : Int) := by omega
      clear ho hln hcs hpx hno
      go_wp2_with fail
      refine (HP.out _ HO.out).mono ?_
      rintro e w1 ⟨rfl, hb1⟩
      have HO2 := Lib.hid (later HO.out hb1)
      clear hb1 hc0 hc1 hc2
      cases hp : p (((A1, n1, c1), L), ((A2, n2, c2), S), T) with
      | true =>
        rw [hp] at HAT
        have e := HAT.out rfl
        clear HNO HAT hp
        go_wp2_with fail
        go_ret
        exact ⟨by rw [e]; rfl, HO2.out⟩
      | false =>
        rw [hp] at HNO
        have HN := Lib.hid (HNO.out rfl)
        clear HNO HAT hp
        go_wp2_with fail
        go_roundw
        case rel => exact ⟨k + 1, by omega, by go_num, HN.out, HO2.out⟩
        case measure => simp [intOf]; omega
    · obtain rfl : k = n := by omega
      have e := fstI_end p hs (fun j hj => hno j (by omega) hj)
      have HE := Lib.hid e
      have HO := Lib.hid ho
      clear e ho hno hln
      go_wp2_with fail
      go_ret
      exact ⟨by rw [HE.out]; rfl, HO.out⟩
theorem containsR_any (G : FuncId) (lb : Array Value) (p : SerH → Bool) (hent : ∀ args w, (callFunc G args).run Try.prog w = .ok (.enter G args) w) (A : Option Addr) (n c : Nat) (hs : List SerH) (w : World) (hl : Sers w A n c hs) (hn : n ≤ 1000000)
    (hG : ∀ x ∈ hs, ∀ W, Below w.heap.size w W → Calls Try.prog G (#[serV x] ++ lb) W fun e W' => e = .returned (.bool (p x)) ∧ Below W.heap.size W W') :
    Calls Try.prog 40 #[.slice A n c, .func (.func G) #[] lb] w fun e w' => e = .returned (.bool (hs.any p)) ∧ Below w.heap.size w w' := by
  have K := Lib.hid (indexR_any G lb p hent A n c hs w hl hn hG)
  have HR := fstI_ge p hs
  have HA : Hid (hs.any p = decide (0 ≤ fstI p hs)) := Lib.hid (by
    unfold fstI
    cases h : hs.findIdx? p with
    | none =>
      rw [List.findIdx?_eq_none_iff] at h
      simp only []
      rw [show decide ((0 : Int) ≤ -1) = false by decide, List.any_eq_false]
      intro x hx
      rw [h x hx]; decide
    | some i =>
      rw [List.findIdx?_eq_some_iff_getElem] at h
      obtain ⟨hi, hp, -⟩ := h
      simp only []
      rw [decide_eq_true (by omega : (0 : Int) ≤ (i : Int)), List.any_eq_true]
      exact ⟨_, List.getElem_mem hi, hp⟩)
  rw [HA.out]
  have hln := hl.row.len
  obtain ⟨F, hF⟩ : ∃ F, fstI p hs = F := ⟨_, rfl⟩
  rw [hF] at K HR ⊢
  clear hl hG HA hF
  go_enter Try.func40, Try.ntmps40
  go_wp2_with fail
  refine K.out.mono ?_
  rintro e w1 ⟨rfl, hb1⟩
  have HB := Lib.hid hb1
  clear hb1
  go_wp2_with fail
  go_ret
  exact ⟨rfl, HB.out⟩
/-! ### Rows of one's own beside each other -/
theorem own_same {w w' : World} {base n size : Nat} {e : TypeId} {v : Value} {xs : List Value} (h : w.ownsRow base e size v n xs) (hk : ∀ k, v.ownBlock = some k → w'.heap[k]? = w.heap[k]?) : w'.ownsRow base e size v n xs := by
  refine ⟨h.1, ?_⟩
  rcases h.2 with h2 | ⟨g, cap, cur, hv, hgb, hh, hr⟩
  · exact .inl h2
  · exact .inr ⟨g, cap, cur, hv, hgb, (hk g (by rw [hv]; rfl)).trans hh, hr⟩
theorem own_type {w : World} {b1 b2 n1 n2 s1 s2 : Nat} {e1 e2 : TypeId} {v1 v2 : Value} {x1 x2 : List Value} (h1 : w.ownsRow b1 e1 s1 v1 n1 x1) (h2 : w.ownsRow b2 e2 s2 v2 n2 x2) (he : e1 ≠ e2) : ∀ k, v1.ownBlock = some k → v2.ownBlock ≠ some k := by
  intro k hk hk2
  rcases h1.2 with ⟨hv, _⟩ | ⟨g, cap, cur, hv, hgb, hh, _⟩
  · rw [hv] at hk; cases hk
  rcases h2.2 with ⟨hv2, _⟩ | ⟨g2, cap2, cur2, hv2, hgb2, hh2, _⟩
  · rw [hv2] at hk2; cases hk2
  rw [hv] at hk
  rw [hv2] at hk2
  injection hk with hk
  injection hk2 with hk2
  subst hk hk2
  rw [hh] at hh2
  injection hh2 with hh2
  injection hh2 with _ h3
  exact he h3
theorem own_lt' {w : World} {base n size : Nat} {e : TypeId} {v : Value} {xs : List Value} (h : w.ownsRow base e size v n xs) : ∀ k, v.ownBlock = some k → base ≤ k ∧ k < w.heap.size := by
  intro k hk
  rcases h.2 with ⟨hv, _⟩ | ⟨g, cap, cur, hv, hgb, hh, _⟩
  · rw [hv] at hk; cases hk
  · rw [hv] at hk; cases hk; exact ⟨hgb, (Array.getElem?_eq_some_iff.1 hh).1⟩
/-- 'append(s, x)' of one thing, onto a row of the call's own: all other blocks are as they were. -/
theorem wpList_append_keepC {P : Program} {ops : Array Oper} {rest : List Oper} {o : Oper} {a : Act} {Q : Exit → Act → World → Prop} (hgd : o.guard = none) (s x : Operand) (t : TypeId)
    (ho : o.op = .call { callee := .builtin .append, args := #[s, x], argTypes := #[t, t] })
    (base : Nat) (e : TypeId) (z : Value) (size bytes : Nat) (ht : P.underlying t = some (.slice e)) (he : Elem P e z size bytes) (hzs : z.cells.size = size) (hsz : 0 < size)
    {v : Value} {n : Nat} {xs : List Value} (wr : World) (hown : wr.ownsRow base e size v n xs) (hs : a.eval s = v) (us : Array Value) {g : Nat} (hgg : wr.heap.size = g)
    (hx : a.eval x = .slice (some ⟨g, 0, none⟩) 1 1) (hl : us.size = size) (h1 : ∀ u ∈ us.toList, u.oneCell' = true)
    (hbytes : (n + 1) * bytes ≤ 140737488355328) (h63 : n + 1 ≤ 140737488355328) (hbase : base ≤ wr.heap.size)
    (h : ∀ v' w', w'.ownsRow base e size v' (n + 1) (xs ++ us.toList) → Below base wr w' → wr.heap.size < w'.heap.size → (∀ k, k < wr.heap.size → v.ownBlock ≠ some k → w'.heap[k]? = wr.heap[k]?) → wpList P ops Q rest (a.put o.dst v') w') :
    wpList P ops Q (o :: rest) a (wr.alloc (.cells us e (0, 0))) := by
  subst hgg
  obtain ⟨i0, hi, hz0, hz1, hz2⟩ := info_parts he
  refine wpList_append_own (w := wr.alloc (.cells us e (0, 0))) hgd s x t ho base e i0 z size bytes ht hi hz0 hz1 hz2 hzs hsz v n xs hs (hown.alloc _) ⟨wr.heap.size, 0, none⟩ 1 1 us.toList hx (by simp [hl]) ?_ h1 ?_ hbytes ?_ ?_
  · intro j u hj
    have hp : (⟨wr.heap.size, 0, none⟩ : Addr).add j = ⟨wr.heap.size, j, none⟩ := by unfold Addr.add; split <;> simp_all
    rw [hp, World.cell?_alloc_mark]
    simpa using hj
  · unfold maxLen; omega
  · simp; omega
  · intro v' w' hown' hg _
    refine h v' w' hown' ?_ ?_ ?_
    · refine ((Below.refl base wr).alloc hbase _).grown hg (by simp; omega) ?_
      intro k hk
      rcases hown.2 with ⟨hv, _⟩ | ⟨g, cap, cur, hv, hgb, _⟩
      · rw [hv] at hk; cases hk
      · rw [hv] at hk; cases hk; exact hgb
    · have := hg.size; simp at this; omega
    · intro k hk hne
      exact (hg.block k (by simp; omega) (fun e => hne e.symm)).trans (Below.heap_alloc wr _ k hk)
end Go.Proofs.Ytdjgndnllaingaa.TrW
