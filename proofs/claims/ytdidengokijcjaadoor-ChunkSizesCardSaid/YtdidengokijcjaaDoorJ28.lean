/-
  chunk.many: THE WALK.
  chunk.getSmall$1: THE WALK.
  chunk.getWide, getSmall: THE WALKS.
  chunk.getBits: THE WALK.
  chunk.Get: THE WALK.
-/
import Derived.Test.YtdidengokijcjaaDoorJ27
import Derived.Test.YtdidengokijcjaaDoorJ24
import Derived.Test.YtdidengokijcjaaDoorJ13
import Derived.Test.YtdidengokijcjaaDoorJ18
import Derived.Test.YtdidengokijcjaaDoorJ25
/-
  chunk.many: THE WALK.
-/
namespace Go.Proofs.YtdidengokijcjaaDoor.ChW
set_option linter.unusedVariables false
open Go.RowKit FrM FrW StM ChM LabW
/-- What many has got behind i rounds. -/
def mSt (one : Int → Cu → Sm × Cu) : Nat → List Sm → Int → Cu → List Sm × Int × Cu
  | 0, l, last, c => (l, last, c)
  | i + 1, l, last, c => mSt one i (l ++ [(one last c).1]) (one last c).1.1 (one last c).2
theorem many_st (one : Int → Cu → Sm × Cu) : ∀ (n : Nat) (l : List Sm) (last : Int) (c : Cu), ((mSt one n l last c).1, (mSt one n l last c).2.2) = (l ++ (many one n last c).1, (many one n last c).2)
  | 0, l, last, c => by simp [mSt, many]
  | n + 1, l, last, c => by
    unfold mSt many
    rw [many_st one n]
    simp
theorem mSt_succ (one : Int → Cu → Sm × Cu) : ∀ (n : Nat) (l : List Sm) (last : Int) (c : Cu), mSt one (n + 1) l last c = ((mSt one n l last c).1 ++ [(one (mSt one n l last c).2.1 (mSt one n l last c).2.2).1], (one (mSt one n l last c).2.1 (mSt one n l last c).2.2).1.1, (one (mSt one n l last c).2.1 (mSt one n l last c).2.2).2)
  | 0, l, last, c => rfl
  | n + 1, l, last, c => by
    rw [show mSt one (n + 1 + 1) l last c = mSt one (n + 1) (l ++ [(one last c).1]) (one last c).1.1 (one last c).2 from rfl, mSt_succ one n]
    rfl
theorem mSt_ok {one : Int → Cu → Sm × Cu} (h : ∀ last c, okS (one last c).1) : ∀ (n : Nat) (l : List Sm) (last : Int) (c : Cu), (∀ x ∈ l, okS x) → ∀ x ∈ (mSt one n l last c).1, okS x
  | 0, l, last, c, hl => hl
  | n + 1, l, last, c, hl => mSt_ok h n _ _ _ (fun x hx => by
      rcases List.mem_append.1 hx with h1 | h1
      · exact hl x h1
      · rw [List.mem_singleton.1 h1]; exact h last c)
theorem mSt_le {one : Int → Cu → Sm × Cu} (h : ∀ last c, (one last c).2.1.length ≤ c.1.length) : ∀ (n : Nat) (l : List Sm) (last : Int) (c : Cu), (mSt one n l last c).2.2.1.length ≤ c.1.length
  | 0, l, last, c => Nat.le_refl _
  | n + 1, l, last, c => Nat.le_trans (mSt_le h n _ _ _) (h last c)
theorem mSt_len (one : Int → Cu → Sm × Cu) : ∀ (n : Nat) (l : List Sm) (last : Int) (c : Cu), (mSt one n l last c).1.length = l.length + n
  | 0, l, last, c => rfl
  | n + 1, l, last, c => by unfold mSt; rw [mSt_len one n]; simp; omega
theorem grown_own {w w1 w2 : World} {g : Nat} (h : Below w.heap.size w1 w2) (k : w.grownBy w1 (some g)) : w.grownBy w2 (some g) :=
  ⟨h.os.trans k.os, h.tape.trans k.tape, h.output.trans k.output, Nat.le_trans k.size h.size, fun i hi hne => (h.block i hi).trans (k.block i hi hne)⟩
theorem manyEnd {w w2 : World} {g n : Nat} {v : Value} {l l2 : List Sm} {c2 c3 : Cu} (ho : w2.ownsRow w.heap.size 37 2 v n (l.flatMap encS)) (hc : CurAt w2 g c2) (hg : w.grownBy w2 (some g)) (h1 : l = l2) (h2 : c2 = c3) (hok : ∀ x ∈ l, okS x) :
    ∃ A m cp, Ending.returned v = .returned (.slice A m cp) ∧ Comes w2 2 encS okS A m cp l2 ∧ CurAt w2 g c3 ∧ w.grownBy w2 (some g) := by
  subst h1 h2
  obtain ⟨A, c, rfl, rfl, h⟩ := Comes.of_own ho (fun _ => rfl) (by decide) hok
  exact ⟨A, _, c, rfl, h, hc, hg⟩
set_option maxRecDepth 20000 in
set_option maxHeartbeats 4000000 in
theorem manyA (k gb g n : Nat) (one : Int → Cu → Sm × Cu) (c : Cu) (w : World) (hp : PtrAt w gb g) (hne : gb ≠ g) (hc : CurAt w g c) (hcl : c.1.length ≤ 2199023255552) (hk : ∀ (xs : Array Value) (W : World), (callFunc k xs).run Tryd.prog W = .ok (.enter k xs) W)
    (hok : ∀ last c, okS (one last c).1) (hle : ∀ last c, (one last c).2.1.length ≤ c.1.length) (hn : n ≤ 201) (hn2 : n < 18446744073709551616)
    (K : ∀ W last c, PtrAt W gb g → CurAt W g c → c.1.length ≤ 2199023255552 → Calls Tryd.prog k #[.int .i64 last, .pointer (some ⟨gb, 0, none⟩)] W fun e w' => e = .returned (.agg #[.int .i64 (one last c).1.1, .int .u64 (one last c).1.2]) ∧ CurAt w' g (one last c).2 ∧ W.grownBy w' (some g)) :
    Calls Tryd.prog 52 #[.pointer (some ⟨g, 0, none⟩), .int .u64 (n : Int), .func (Fn.func k) #[] #[.pointer (some ⟨gb, 0, none⟩)]] w fun e w' => ∃ A m cp, e = .returned (.slice A m cp) ∧ Comes w' 2 encS okS A m cp (many one (min n 201) 0 c).1 ∧ CurAt w' g (many one (min n 201) 0 c).2 ∧ w.grownBy w' (some g) := by
  have HK := Lib.hid K
  have HOL := Lib.hid (And.intro hok hle)
  have HI := Lib.hid (And.intro hc (And.intro hp (And.intro hne hc.lt)))
  have m1 : ¬ (201 : Int) < (n : Int) := by omega
  obtain ⟨N, hN⟩ : ∃ N, min n 201 = N := ⟨_, rfl⟩
  have hNN : (N : Int) = (n : Int) := by omega
  rw [hN]
  clear hc hp hne K hN hok hle
  go_enter Tryd.func52, Tryd.ntmps52
  go_wp2_with fail
  go_loopw [7, 8, 12] (fun v7 v8 v12 wr => ∃ i : Nat, i ≤ N ∧ v12 = .int .u64 i ∧ v8 = .int .i64 (mSt one i [] 0 c).2.1 ∧ wr.ownsRow w.heap.size 37 2 v7 i ((mSt one i [] 0 c).1.flatMap encS) ∧ CurAt wr g (mSt one i [] 0 c).2.2 ∧ w.grownBy wr (some g)) (fun _ _ v12 _ => N - (intOf v12).toNat)
  case atStart => exact ⟨0, Nat.zero_le _, rfl, rfl, World.ownsRow_nil _ _ _ _, HI.out.1, below_g (Below.refl _ _) _⟩
  case round =>
    obtain ⟨i, hi, rfl, rfl, hown, hcur, hgr⟩ := hrel
    have hms := mSt_succ one i [] 0 c
    have hmo := mSt_ok HOL.out.1 i [] 0 c (fun _ h => absurd h List.not_mem_nil)
    have hml := mSt_le HOL.out.2 i [] 0 c
    have hmn := mSt_len one i [] 0 c
    obtain ⟨st, hst⟩ : ∃ st, mSt one i [] 0 c = st := ⟨_, rfl⟩
    rw [hst] at hms hmo hml hmn hown hcur ⊢
    obtain ⟨l, last, c2⟩ := st
    simp only [] at hms hmo hml hmn hown hcur
    by_cases hlt : i < N
    · have hK := HK.out wr last c2 (HI.out.2.1.grown HI.out.2.2.1 hgr) hcur (Nat.le_trans hml hcl)
      have hxo := HOL.out.1 last c2
      obtain ⟨x, hx⟩ : ∃ x, one last c2 = x := ⟨_, rfl⟩
      rw [hx] at hK hms hxo
      obtain ⟨⟨x1, x2⟩, c3⟩ := x
      simp only [] at hK hms hxo
      have HKK := Lib.hid hK
      have HMS := Lib.hid hms
      have HW := Lib.hid hown
      have HG := Lib.hid hgr
      have hBw := hgr.size
      have i1 : (i : Int) < (n : Int) := by omega
      have iw : (i : Int) + 1 < 18446744073709551616 := by omega
      have HNN := Lib.hid hNN
      clear hK hms hown hcur hgr hx hxo hmo hml hst hmn hNN hcl HOL
      clear hn2 iw
      go_wp2_with fail
      refine HKK.out.mono ?_
      rintro e w1 ⟨rfl, hc1, hg1⟩
      have hk1 : ∀ k, w.heap.size ≤ k → k < wr.heap.size → w1.heap[k]? = wr.heap[k]? := fun k h1 h2 => hg1.block k h2 (fun e => by have := Option.some.inj e; have := HI.out.2.2.2; omega)
      have hown1 := own_same HW.out (fun k hk => by have := own_lt' HW.out k hk; exact hk1 k this.1 this.2)
      have hz1 := hg1.size
      have hlt4 := own_lt' hown1
      have hown1b := hown1.alloc (.cells #[.int .i64 x1, .int .u64 x2] 37 (0, 0))
      have hzA : (w1.alloc (.cells #[.int .i64 x1, .int .u64 x2] 37 (0, 0))).heap.size = w1.heap.size + 1 := by simp
      have hnew := heap_alloc_new w1 (.cells #[.int .i64 x1, .int .u64 x2] 37 (0, 0))
      have HA := Lib.hid (And.intro hnew (And.intro hc1 (And.intro hg1 hlt4)))
      have HZ := Lib.hid (And.intro hzA (Nat.le_trans hBw hz1))
      clear hk1 hc1 hg1 hown1 hlt4 hzA hnew
      go_wp2_with (first
        | (at_builtin; (refine wpList_append_keepC rfl _ _ 22 rfl w.heap.size 37 (.agg #[.int .i64 0, .int .u64 0]) 2 16 Tryd.underlying22 elemS rfl (by decide) (w1.alloc (.cells #[.int .i64 x1, .int .u64 x2] 37 (0, 0))) hown1b rfl _ HZ.out.1 rfl rfl (one2 rfl rfl) (by omega) (by omega) (by rw [HZ.out.1]; have := HZ.out.2; omega) ?_)
           intro v4' w4' hown4' hb4' hz4' hkp4
           have hA4 : w4'.heap[w1.heap.size]? = some (.cells #[.int .i64 x1, .int .u64 x2] 37 (0, 0)) := (hkp4 _ (by rw [HZ.out.1]; omega) (fun e => by have := (HA.out.2.2.2 _ e).2; omega)).trans HA.out.1
           have d0 : w4'.cell? ⟨w1.heap.size, 0, none⟩ = some (.int .i64 x1) := by rw [cell_of_row _ _ _ _ _ _ hA4]; rfl
           have HB4 := Lib.hid (And.intro hb4' hown4')
           clear hown4' hb4' hz4' hkp4 hA4))
      go_roundw
      case rel =>
        have hgA : w1.grownBy (w1.alloc (.cells #[.int .i64 x1, .int .u64 x2] 37 (0, 0))) (some g) := World.grownBy_alloc w1 _ _
        have hg4 := grown_own (g := g) HB4.out.1 (g_trans HG.out (g_trans HA.out.2.2.1 hgA))
        refine ⟨i + 1, by omega, by go_num, by rw [HMS.out], ?_, ?_, hg4⟩
        · rw [HMS.out, List.flatMap_append]; exact HB4.out.2
        · rw [HMS.out]
          refine (HB4.out.1.block g HI.out.2.2.2).trans ?_
          exact (Below.heap_alloc w1 _ _ HA.out.2.1.lt).trans HA.out.2.1
      case measure => simp [intOf]; omega
    · have hiN : i = N := by omega
      subst hiN
      have hmm := many_st one i [] 0 c
      rw [hst, List.nil_append] at hmm
      have hm1 : l = (many one i 0 c).1 := congrArg Prod.fst hmm
      have hm2 : c2 = (many one i 0 c).2 := congrArg Prod.snd hmm
      have HF := Lib.hid (And.intro hown (And.intro hcur (And.intro hgr (And.intro hm1 (And.intro hm2 hmo)))))
      have i1 : ¬ (i : Int) < (n : Int) := by omega
      clear hown hcur hgr hm1 hm2 hmo hst hmm hms hml
      go_wp2_with fail
      go_ret
      exact manyEnd HF.out.1 HF.out.2.1 HF.out.2.2.1 HF.out.2.2.2.1 HF.out.2.2.2.2.1 HF.out.2.2.2.2.2
set_option maxRecDepth 20000 in
set_option maxHeartbeats 4000000 in
theorem manyB (k gb g n : Nat) (one : Int → Cu → Sm × Cu) (c : Cu) (w : World) (hp : PtrAt w gb g) (hne : gb ≠ g) (hc : CurAt w g c) (hcl : c.1.length ≤ 2199023255552) (hk : ∀ (xs : Array Value) (W : World), (callFunc k xs).run Tryd.prog W = .ok (.enter k xs) W)
    (hok : ∀ last c, okS (one last c).1) (hle : ∀ last c, (one last c).2.1.length ≤ c.1.length) (hn : 201 < n) (hn2 : n < 18446744073709551616)
    (K : ∀ W last c, PtrAt W gb g → CurAt W g c → c.1.length ≤ 2199023255552 → Calls Tryd.prog k #[.int .i64 last, .pointer (some ⟨gb, 0, none⟩)] W fun e w' => e = .returned (.agg #[.int .i64 (one last c).1.1, .int .u64 (one last c).1.2]) ∧ CurAt w' g (one last c).2 ∧ W.grownBy w' (some g)) :
    Calls Tryd.prog 52 #[.pointer (some ⟨g, 0, none⟩), .int .u64 (n : Int), .func (Fn.func k) #[] #[.pointer (some ⟨gb, 0, none⟩)]] w fun e w' => ∃ A m cp, e = .returned (.slice A m cp) ∧ Comes w' 2 encS okS A m cp (many one (min n 201) 0 c).1 ∧ CurAt w' g (many one (min n 201) 0 c).2 ∧ w.grownBy w' (some g) := by
  have HK := Lib.hid K
  have HOL := Lib.hid (And.intro hok hle)
  have HI := Lib.hid (And.intro hc (And.intro hp (And.intro hne hc.lt)))
  have m1 : (201 : Int) < (n : Int) := by omega
  obtain ⟨N, hN⟩ : ∃ N, min n 201 = N := ⟨_, rfl⟩
  have hNN : (N : Int) = (201 : Int) := by omega
  rw [hN]
  clear hc hp hne K hN hok hle
  go_enter Tryd.func52, Tryd.ntmps52
  go_wp2_with fail
  go_loopw [7, 8, 12] (fun v7 v8 v12 wr => ∃ i : Nat, i ≤ N ∧ v12 = .int .u64 i ∧ v8 = .int .i64 (mSt one i [] 0 c).2.1 ∧ wr.ownsRow w.heap.size 37 2 v7 i ((mSt one i [] 0 c).1.flatMap encS) ∧ CurAt wr g (mSt one i [] 0 c).2.2 ∧ w.grownBy wr (some g)) (fun _ _ v12 _ => N - (intOf v12).toNat)
  case atStart => exact ⟨0, Nat.zero_le _, rfl, rfl, World.ownsRow_nil _ _ _ _, HI.out.1, below_g (Below.refl _ _) _⟩
  case round =>
    obtain ⟨i, hi, rfl, rfl, hown, hcur, hgr⟩ := hrel
    have hms := mSt_succ one i [] 0 c
    have hmo := mSt_ok HOL.out.1 i [] 0 c (fun _ h => absurd h List.not_mem_nil)
    have hml := mSt_le HOL.out.2 i [] 0 c
    have hmn := mSt_len one i [] 0 c
    obtain ⟨st, hst⟩ : ∃ st, mSt one i [] 0 c = st := ⟨_, rfl⟩
    rw [hst] at hms hmo hml hmn hown hcur ⊢
    obtain ⟨l, last, c2⟩ := st
    simp only [] at hms hmo hml hmn hown hcur
    by_cases hlt : i < N
    · have hK := HK.out wr last c2 (HI.out.2.1.grown HI.out.2.2.1 hgr) hcur (Nat.le_trans hml hcl)
      have hxo := HOL.out.1 last c2
      obtain ⟨x, hx⟩ : ∃ x, one last c2 = x := ⟨_, rfl⟩
      rw [hx] at hK hms hxo
      obtain ⟨⟨x1, x2⟩, c3⟩ := x
      simp only [] at hK hms hxo
      have HKK := Lib.hid hK
      have HMS := Lib.hid hms
      have HW := Lib.hid hown
      have HG := Lib.hid hgr
      have hBw := hgr.size
      have i1 : (i : Int) < (201 : Int) := by omega
      have iw : (i : Int) + 1 < 18446744073709551616 := by omega
      have HNN := Lib.hid hNN
      clear hK hms hown hcur hgr hx hxo hmo hml hst hmn hNN hcl HOL
      clear hn2 iw
      go_wp2_with fail
      refine HKK.out.mono ?_
      rintro e w1 ⟨rfl, hc1, hg1⟩
      have hk1 : ∀ k, w.heap.size ≤ k → k < wr.heap.size → w1.heap[k]? = wr.heap[k]? := fun k h1 h2 => hg1.block k h2 (fun e => by have := Option.some.inj e; have := HI.out.2.2.2; omega)
      have hown1 := own_same HW.out (fun k hk => by have := own_lt' HW.out k hk; exact hk1 k this.1 this.2)
      have hz1 := hg1.size
      have hlt4 := own_lt' hown1
      have hown1b := hown1.alloc (.cells #[.int .i64 x1, .int .u64 x2] 37 (0, 0))
      have hzA : (w1.alloc (.cells #[.int .i64 x1, .int .u64 x2] 37 (0, 0))).heap.size = w1.heap.size + 1 := by simp
      have hnew := heap_alloc_new w1 (.cells #[.int .i64 x1, .int .u64 x2] 37 (0, 0))
      have HA := Lib.hid (And.intro hnew (And.intro hc1 (And.intro hg1 hlt4)))
      have HZ := Lib.hid (And.intro hzA (Nat.le_trans hBw hz1))
      clear hk1 hc1 hg1 hown1 hlt4 hzA hnew
      go_wp2_with (first
        | (at_builtin; (refine wpList_append_keepC rfl _ _ 22 rfl w.heap.size 37 (.agg #[.int .i64 0, .int .u64 0]) 2 16 Tryd.underlying22 elemS rfl (by decide) (w1.alloc (.cells #[.int .i64 x1, .int .u64 x2] 37 (0, 0))) hown1b rfl _ HZ.out.1 rfl rfl (one2 rfl rfl) (by omega) (by omega) (by rw [HZ.out.1]; have := HZ.out.2; omega) ?_)
           intro v4' w4' hown4' hb4' hz4' hkp4
           have hA4 : w4'.heap[w1.heap.size]? = some (.cells #[.int .i64 x1, .int .u64 x2] 37 (0, 0)) := (hkp4 _ (by rw [HZ.out.1]; omega) (fun e => by have := (HA.out.2.2.2 _ e).2; omega)).trans HA.out.1
           have d0 : w4'.cell? ⟨w1.heap.size, 0, none⟩ = some (.int .i64 x1) := by rw [cell_of_row _ _ _ _ _ _ hA4]; rfl
           have HB4 := Lib.hid (And.intro hb4' hown4')
           clear hown4' hb4' hz4' hkp4 hA4))
      go_roundw
      case rel =>
        have hgA : w1.grownBy (w1.alloc (.cells #[.int .i64 x1, .int .u64 x2] 37 (0, 0))) (some g) := World.grownBy_alloc w1 _ _
        have hg4 := grown_own (g := g) HB4.out.1 (g_trans HG.out (g_trans HA.out.2.2.1 hgA))
        refine ⟨i + 1, by omega, by go_num, by rw [HMS.out], ?_, ?_, hg4⟩
        · rw [HMS.out, List.flatMap_append]; exact HB4.out.2
        · rw [HMS.out]
          refine (HB4.out.1.block g HI.out.2.2.2).trans ?_
          exact (Below.heap_alloc w1 _ _ HA.out.2.1.lt).trans HA.out.2.1
      case measure => simp [intOf]; omega
    · have hiN : i = N := by omega
      subst hiN
      have hmm := many_st one i [] 0 c
      rw [hst, List.nil_append] at hmm
      have hm1 : l = (many one i 0 c).1 := congrArg Prod.fst hmm
      have hm2 : c2 = (many one i 0 c).2 := congrArg Prod.snd hmm
      have HF := Lib.hid (And.intro hown (And.intro hcur (And.intro hgr (And.intro hm1 (And.intro hm2 hmo)))))
      have i1 : ¬ (i : Int) < (201 : Int) := by omega
      clear hown hcur hgr hm1 hm2 hmo hst hmm hms hml
      go_wp2_with fail
      go_ret
      exact manyEnd HF.out.1 HF.out.2.1 HF.out.2.2.1 HF.out.2.2.2.1 HF.out.2.2.2.2.1 HF.out.2.2.2.2.2
end Go.Proofs.YtdidengokijcjaaDoor.ChW
/-
  chunk.getSmall$1: THE WALK.
-/
namespace Go.Proofs.YtdidengokijcjaaDoor.ChW
set_option linter.unusedVariables false
open Go.RowKit FrM FrW StM ChM
theorem smallC_lt (c : Cu) : (smallC c).1 < 18446744073709551616 := by
  unfold smallC; split
  · exact (by decide : (0 : Nat) < 18446744073709551616)
  · split
    · exact (by decide : (0 : Nat) < 18446744073709551616)
    · rename_i h; exact (gs_is h).1
set_option maxRecDepth 20000 in
set_option maxHeartbeats 4000000 in
theorem oneS_any (gb g : Nat) (last : Int) (c : Cu) (w : World) (hp : PtrAt w gb g) (hne : gb ≠ g) (h : CurAt w g c) (hl : c.1.length ≤ 2199023255552) :
    Calls Tryd.prog 58 #[.int .i64 last, .pointer (some ⟨gb, 0, none⟩)] w fun e w' => e = .returned (.agg #[.int .i64 (oneS last c).1.1, .int .u64 (oneS last c).1.2]) ∧ CurAt w' g (oneS last c).2 ∧ w.grownBy w' (some g) := by
  unfold oneS
  simp only []
  have hw1 : IntKind.i64.wrap (last + zag (smallC c).1) = wrap64 (last + zag (smallC c).1) := wrapE _
  obtain ⟨W0, hW0⟩ : ∃ W0, w.alloc (.cells #[.int .i64 0, .int .u64 0] 37 (0, 0)) = W0 := ⟨_, rfl⟩
  have hbA : Below w.heap.size w W0.drew := by rw [← hW0]; exact ((Below.refl _ _).alloc (Nat.le_refl _) _).drew
  have K1 := Lib.hid (csmall_any g c W0.drew (h.later hbA) hl)
  have K3 : Hid (∀ W, Calls Tryd.prog 59 #[.int .u64 ((smallC c).1 : Int)] W fun e w' => e = .returned (.int .i64 (zag (smallC c).1)) ∧ W = w') := Lib.hid (fun W => zag_any _ W (smallC_lt c))
  have K2 : Hid (∀ W, CurAt W g (smallC c).2 → Calls Tryd.prog 53 #[.pointer (some ⟨g, 0, none⟩)] W fun e w' => e = .returned (.int .u64 ((wideC (smallC c).2).1 : Int)) ∧ CurAt w' g (wideC (smallC c).2).2 ∧ W.grownBy w' (some g)) := Lib.hid (fun W h2 => cwide_any g _ W h2 (Nat.le_trans (smallC_le c) hl))
  have hc0 : W0.cell? ⟨gb, 0, none⟩ = some (.pointer (some ⟨g, 0, none⟩)) := (PtrAt.grown hp hne (below_g hbA _)).c0
  have HN : Hid (W0.drew.heap[w.heap.size]? = some (.cells #[.int .i64 0, .int .u64 0] 37 (0, 0))) := Lib.hid (by rw [← hW0]; exact heap_alloc_new w _)
  have HZ : Hid (w.heap.size ≠ g ∧ gb < w.heap.size) := Lib.hid ⟨Nat.ne_of_gt h.lt, hp.lt⟩
  have HP := Lib.hid (PtrAt.grown hp hne (below_g hbA _))
  have HB := Lib.hid (below_g hbA (some g))
  go_enter Tryd.func58, Tryd.ntmps58
  generalize (wideC (smallC c).2) = c2 at *
  generalize wrap64 (last + zag (smallC c).1) = v1 at *
  generalize zag (smallC c).1 = z1 at *
  generalize (smallC c) = c1 at *
  obtain ⟨n1, c1⟩ := c1
  obtain ⟨n2, c2⟩ := c2
  simp only [] at *
  go_wp2_with fail
  clear hW0 hp h hl hbA
  go_region_with (first
    | (go_at_call 57
       refine K1.out.mono ?_
       rintro e w1 ⟨rfl, hc1, hg1⟩
       have hp1 := (PtrAt.grown HP.out hne hg1).c0
       have HG1 := Lib.hid (And.intro hc1 hg1)
       clear hc1 hg1)
    | (go_at_call 59
       refine (K3.out _).mono ?_
       rintro e w1b ⟨rfl, rfl⟩)
    | (go_at_call 53
       refine (K2.out _ HG1.out.1).mono ?_
       rintro e w2 ⟨rfl, hc2, hg2⟩
       have hp2 := (PtrAt.grown (PtrAt.grown HP.out hne HG1.out.2) hne hg2).c0
       have HG2 := Lib.hid (And.intro hc2 hg2)
       have hn2 := old2 HN.out HZ.out.1 HG1.out.2 hg2
       have d0 : w2.cell? ⟨w.heap.size, 0, none⟩ = some (.int .i64 0) := by rw [cell_of_row w2 _ _ _ _ _ hn2]; rfl
       have d1 : w2.cell? ⟨w.heap.size, 1, none⟩ = some (.int .u64 0) := by rw [cell_of_row w2 _ _ _ _ _ hn2]; rfl
       have f0 : w2.frozen? ⟨w.heap.size, 0, none⟩ = false := frozen_of_row w2 _ 0 _ _ hn2
       have f1 : w2.frozen? ⟨w.heap.size, 1, none⟩ = false := frozen_of_row w2 _ 1 _ _ hn2
       have HN2 := Lib.hid hn2
       clear hn2
       clear hc2 hg2))
  all_goals
    have HF := Lib.hid (fin_row HN2.out v1 (n2 : Int))
    have HC := Lib.hid (fin_cur HZ.out.1 HG2.out.1 (.int .i64 v1) (.int .u64 (n2 : Int)))
    have HG := Lib.hid (fin_grown (w := w) (g_trans HB.out (g_trans HG1.out.2 HG2.out.2)) (.int .i64 v1) (.int .u64 (n2 : Int)))
    go_wp2_with fail
    exact bodyPost_ret (v := .agg #[.int .i64 v1, .int .u64 (n2 : Int)]) (results_cell_row (Tryd.results58) _ _ w.heap.size 37 _ (0, 0) _ rfl HF.out Tryd.underlying37 rfl info_sm) rfl ⟨rfl, HC.out, HG.out⟩
end Go.Proofs.YtdidengokijcjaaDoor.ChW
/-
  chunk.getWide, getSmall: THE WALKS.
-/
namespace Go.Proofs.YtdidengokijcjaaDoor.ChW
set_option linter.unusedVariables false
open Go.RowKit FrM FrW StM ChM LabW
theorem okS_of {a : Int} {n : Nat} (h : n < 18446744073709551616) : okS (wrap64 a, (n : Int)) := by
  have := okI_wrap a
  unfold okI at this
  unfold okS
  simp only []
  omega
theorem oneW_ok (last : Int) (c : Cu) : okS (oneW last c).1 := by unfold oneW; exact okS_of (wideC_lt _)
theorem oneS_ok (last : Int) (c : Cu) : okS (oneS last c).1 := by unfold oneS; exact okS_of (wideC_lt _)
theorem oneW_le (last : Int) (c : Cu) : (oneW last c).2.1.length ≤ c.1.length := Nat.le_trans (wideC_le _) (wideC_le _)
theorem oneS_le (last : Int) (c : Cu) : (oneS last c).2.1.length ≤ c.1.length := Nat.le_trans (wideC_le _) (smallC_le _)
theorem manyW_any (gb g n : Nat) (c : Cu) (w : World) (hp : PtrAt w gb g) (hne : gb ≠ g) (hc : CurAt w g c) (hcl : c.1.length ≤ 2199023255552) (hn : n < 18446744073709551616) :
    Calls Tryd.prog 52 #[.pointer (some ⟨g, 0, none⟩), .int .u64 (n : Int), .func (Fn.func 54) #[] #[.pointer (some ⟨gb, 0, none⟩)]] w fun e w' => ∃ A m cp, e = .returned (.slice A m cp) ∧ Comes w' 2 encS okS A m cp (many oneW (min n 201) 0 c).1 ∧ CurAt w' g (many oneW (min n 201) 0 c).2 ∧ w.grownBy w' (some g) := by
  have K : ∀ W last c, PtrAt W gb g → CurAt W g c → c.1.length ≤ 2199023255552 → Calls Tryd.prog 54 #[.int .i64 last, .pointer (some ⟨gb, 0, none⟩)] W fun e w' => e = .returned (.agg #[.int .i64 (oneW last c).1.1, .int .u64 (oneW last c).1.2]) ∧ CurAt w' g (oneW last c).2 ∧ W.grownBy w' (some g) := fun W last c h1 h2 h3 => oneW_any gb g last c W h1 hne h2 h3
  rcases Nat.lt_or_ge 201 n with h | h
  · exact manyB _ gb g n oneW c w hp hne hc hcl (entersC Tryd.func54 (by kernel_rfl) (by kernel_rfl)) oneW_ok oneW_le h hn K
  · exact manyA _ gb g n oneW c w hp hne hc hcl (entersC Tryd.func54 (by kernel_rfl) (by kernel_rfl)) oneW_ok oneW_le h hn K
set_option maxRecDepth 20000 in
set_option maxHeartbeats 4000000 in
theorem getW_any (g : Nat) (c : Cu) (w : World) (h : CurAt w g c) (hl : c.1.length ≤ 2199023255552) :
    Calls Tryd.prog 37 #[.pointer (some ⟨g, 0, none⟩)] w fun e w' => ∃ A m cp, e = .returned (.slice A m cp) ∧ Comes w' 2 encS okS A m cp (many oneW (min (wideC c).1 201) 0 (wideC c).2).1 ∧ CurAt w' g (many oneW (min (wideC c).1 201) 0 (wideC c).2).2 ∧ w.grownBy w' (some g) := by
  obtain ⟨W0, hW0⟩ : ∃ W0, w.alloc (.cells #[.pointer (some ⟨g, 0, none⟩)] 61 (0, 0)) = W0 := ⟨_, rfl⟩
  have hbA : Below w.heap.size w W0.drew := by rw [← hW0]; exact ((Below.refl _ _).alloc (Nat.le_refl _) _).drew
  have hP : PtrAt W0.drew w.heap.size g := by rw [← hW0]; exact heap_alloc_new w _
  have hne : w.heap.size ≠ g := Nat.ne_of_gt h.lt
  have hc0 : W0.cell? ⟨w.heap.size, 0, none⟩ = some (.pointer (some ⟨g, 0, none⟩)) := hP.c0
  have K1 := Lib.hid (cwide_any g c W0.drew (h.later hbA) hl)
  have K2 : Hid (∀ W, PtrAt W w.heap.size g → CurAt W g (wideC c).2 → Calls Tryd.prog 52 #[.pointer (some ⟨g, 0, none⟩), .int .u64 ((wideC c).1 : Int), .func (Fn.func 54) #[] #[.pointer (some ⟨w.heap.size, 0, none⟩)]] W fun e w' => ∃ A m cp, e = .returned (.slice A m cp) ∧ Comes w' 2 encS okS A m cp (many oneW (min (wideC c).1 201) 0 (wideC c).2).1 ∧ CurAt w' g (many oneW (min (wideC c).1 201) 0 (wideC c).2).2 ∧ W.grownBy w' (some g)) :=
    Lib.hid (fun W h1 h2 => manyW_any _ g _ _ W h1 hne h2 (Nat.le_trans (wideC_le c) hl) (wideC_lt c))
  have HP := Lib.hid hP
  have HB := Lib.hid (below_g hbA (some g))
  go_enter Tryd.func37, Tryd.ntmps37
  generalize many oneW (min (wideC c).1 201) 0 (wideC c).2 = R at *
  generalize wideC c = c1 at *
  obtain ⟨n1, c1⟩ := c1
  simp only [] at *
  go_wp2_with fail
  clear hW0 hP h hl hbA
  go_region_with (first
    | (go_at_call 53
       refine K1.out.mono ?_
       rintro e w1 ⟨rfl, hc1, hg1⟩
       have hp1 := (PtrAt.grown HP.out hne hg1).c0
       have HG1 := Lib.hid (And.intro hc1 hg1)
       clear hc1 hg1)
    | (go_at_call 52
       go_loud (refine (K2.out _ (PtrAt.grown HP.out hne HG1.out.2) HG1.out.1).mono ?_)
       rintro e w2 ⟨A, m, cp, rfl, hcm, hc2, hg2⟩
       have HG2 := Lib.hid (And.intro hcm (And.intro hc2 hg2))
       clear hcm hc2 hg2))
  all_goals
    go_wp2_with fail
    go_ret
    exact ⟨A, m, cp, rfl, HG2.out.1, HG2.out.2.1, g_trans HB.out (g_trans HG1.out.2 HG2.out.2.2)⟩
theorem manyS_any (gb g n : Nat) (c : Cu) (w : World) (hp : PtrAt w gb g) (hne : gb ≠ g) (hc : CurAt w g c) (hcl : c.1.length ≤ 2199023255552) (hn : n < 18446744073709551616) :
    Calls Tryd.prog 52 #[.pointer (some ⟨g, 0, none⟩), .int .u64 (n : Int), .func (Fn.func 58) #[] #[.pointer (some ⟨gb, 0, none⟩)]] w fun e w' => ∃ A m cp, e = .returned (.slice A m cp) ∧ Comes w' 2 encS okS A m cp (many oneS (min n 201) 0 c).1 ∧ CurAt w' g (many oneS (min n 201) 0 c).2 ∧ w.grownBy w' (some g) := by
  have K : ∀ W last c, PtrAt W gb g → CurAt W g c → c.1.length ≤ 2199023255552 → Calls Tryd.prog 58 #[.int .i64 last, .pointer (some ⟨gb, 0, none⟩)] W fun e w' => e = .returned (.agg #[.int .i64 (oneS last c).1.1, .int .u64 (oneS last c).1.2]) ∧ CurAt w' g (oneS last c).2 ∧ W.grownBy w' (some g) := fun W last c h1 h2 h3 => oneS_any gb g last c W h1 hne h2 h3
  rcases Nat.lt_or_ge 201 n with h | h
  · exact manyB _ gb g n oneS c w hp hne hc hcl (entersC Tryd.func58 (by kernel_rfl) (by kernel_rfl)) oneS_ok oneS_le h hn K
  · exact manyA _ gb g n oneS c w hp hne hc hcl (entersC Tryd.func58 (by kernel_rfl) (by kernel_rfl)) oneS_ok oneS_le h hn K
set_option maxRecDepth 20000 in
set_option maxHeartbeats 4000000 in
theorem getS_any (g : Nat) (c : Cu) (w : World) (h : CurAt w g c) (hl : c.1.length ≤ 2199023255552) :
    Calls Tryd.prog 39 #[.pointer (some ⟨g, 0, none⟩)] w fun e w' => ∃ A m cp, e = .returned (.slice A m cp) ∧ Comes w' 2 encS okS A m cp (many oneS (min (smallC c).1 201) 0 (smallC c).2).1 ∧ CurAt w' g (many oneS (min (smallC c).1 201) 0 (smallC c).2).2 ∧ w.grownBy w' (some g) := by
  obtain ⟨W0, hW0⟩ : ∃ W0, w.alloc (.cells #[.pointer (some ⟨g, 0, none⟩)] 61 (0, 0)) = W0 := ⟨_, rfl⟩
  have hbA : Below w.heap.size w W0.drew := by rw [← hW0]; exact ((Below.refl _ _).alloc (Nat.le_refl _) _).drew
  have hP : PtrAt W0.drew w.heap.size g := by rw [← hW0]; exact heap_alloc_new w _
  have hne : w.heap.size ≠ g := Nat.ne_of_gt h.lt
  have hc0 : W0.cell? ⟨w.heap.size, 0, none⟩ = some (.pointer (some ⟨g, 0, none⟩)) := hP.c0
  have K1 := Lib.hid (csmall_any g c W0.drew (h.later hbA) hl)
  have K2 : Hid (∀ W, PtrAt W w.heap.size g → CurAt W g (smallC c).2 → Calls Tryd.prog 52 #[.pointer (some ⟨g, 0, none⟩), .int .u64 ((smallC c).1 : Int), .func (Fn.func 58) #[] #[.pointer (some ⟨w.heap.size, 0, none⟩)]] W fun e w' => ∃ A m cp, e = .returned (.slice A m cp) ∧ Comes w' 2 encS okS A m cp (many oneS (min (smallC c).1 201) 0 (smallC c).2).1 ∧ CurAt w' g (many oneS (min (smallC c).1 201) 0 (smallC c).2).2 ∧ W.grownBy w' (some g)) :=
    Lib.hid (fun W h1 h2 => manyS_any _ g _ _ W h1 hne h2 (Nat.le_trans (smallC_le c) hl) (smallC_lt c))
  have HP := Lib.hid hP
  have HB := Lib.hid (below_g hbA (some g))
  go_enter Tryd.func39, Tryd.ntmps39
  generalize many oneS (min (smallC c).1 201) 0 (smallC c).2 = R at *
  generalize smallC c = c1 at *
  obtain ⟨n1, c1⟩ := c1
  simp only [] at *
  go_wp2_with fail
  clear hW0 hP h hl hbA
  go_region_with (first
    | (go_at_call 57
       refine K1.out.mono ?_
       rintro e w1 ⟨rfl, hc1, hg1⟩
       have hp1 := (PtrAt.grown HP.out hne hg1).c0
       have HG1 := Lib.hid (And.intro hc1 hg1)
       clear hc1 hg1)
    | (go_at_call 52
       go_loud (refine (K2.out _ (PtrAt.grown HP.out hne HG1.out.2) HG1.out.1).mono ?_)
       rintro e w2 ⟨A, m, cp, rfl, hcm, hc2, hg2⟩
       have HG2 := Lib.hid (And.intro hcm (And.intro hc2 hg2))
       clear hcm hc2 hg2))
  all_goals
    go_wp2_with fail
    go_ret
    exact ⟨A, m, cp, rfl, HG2.out.1, HG2.out.2.1, g_trans HB.out (g_trans HG1.out.2 HG2.out.2.2)⟩
end Go.Proofs.YtdidengokijcjaaDoor.ChW
/-
  chunk.getBits: THE WALK.
-/
namespace Go.Proofs.YtdidengokijcjaaDoor.ChW
set_option linter.unusedVariables false
open Go.RowKit FrM FrW StM ChM LabW BitsM BitsW
def getB (c : Cu) : List Sm × Cu :=
  let n := min (smallC c).1 201
  let t := textC 100000 (smallC c).2
  let v := textC 100000 t.2
  match StW.readB (unpack t.1) n, VaM.readB (unpack v.1) n with
  | some ts, some vs => (zipS ts vs, v.2)
  | _, _ => ([], (v.2.1, true))
theorem zip_take (ts : List Int) (vs : List Nat) (k : Nat) (h : k < ts.length) (h2 : k < vs.length) : (zipS ts vs).take (k + 1) = (zipS ts vs).take k ++ [(ts[k], (vs[k] : Int))] := by
  unfold zipS
  have hl : k < (List.zipWith (fun (a : Int) (b : Nat) => (a, (b : Int))) ts vs).length := by rw [List.length_zipWith]; omega
  rw [List.take_succ_eq_append_getElem hl, List.getElem_zipWith]
theorem text_size (c : Cu) : (textC 100000 c).1.length ≤ 100000 := by
  unfold textC; split
  · exact Nat.zero_le _
  · split
    · exact Nat.zero_le _
    · split
      · exact Nat.zero_le _
      · simp only [List.length_take]; omega
theorem zip_ok {ts : List Int} {vs : List Nat} (h1 : ∀ t ∈ ts, okI t) (h2 : ∀ v ∈ vs, VaM.okU v) : ∀ x ∈ zipS ts vs, okS x := by
  intro x hx
  unfold zipS at hx
  obtain ⟨i, hi, rfl⟩ := List.getElem_of_mem hx
  rw [List.length_zipWith] at hi
  rw [List.getElem_zipWith]
  have a := h1 _ (List.getElem_mem (by omega : i < ts.length))
  have b := h2 _ (List.getElem_mem (by omega : i < vs.length))
  unfold okI at a
  unfold VaM.okU at b
  unfold okS
  simp only []
  omega
theorem tab_grown {w w' : World} {g : Nat} {c : Cu} (h : Tab w) (hc : CurAt w g c) (k : w.grownBy w' (some g)) : Tab w' := by
  intro j hj
  have h1 := h j hj
  have h0 := h 0 (by omega)
  obtain ⟨l, b⟩ := c
  have hne : g ≠ Tryd.lays29_ren.g 1 := by
    intro e
    rw [← e, hc.c0] at h0
    cases h0
  have hlt : Tryd.lays29_ren.g 1 < w.heap.size := by
    rcases Nat.lt_or_ge (Tryd.lays29_ren.g 1) w.heap.size with h2 | h2
    · exact h2
    · have : w.heap[Tryd.lays29_ren.g 1]? = none := Array.getElem?_eq_none h2
      simp [World.cell?, this] at h1
  have e := k.block _ hlt (fun e => hne (Option.some.inj e).symm)
  rw [← h1]
  simp only [World.cell?, e]
theorem bad_end {w w5 : World} {g : Nat} {c5 : Cu} (hg : w.grownBy w5 (some g)) (hc : CurAt w5 g c5) :
    ∃ A m cp, Ending.returned (.slice none 0 0) = .returned (.slice A m cp) ∧ Comes (w5.setCell ⟨g, 1, none⟩ (.bool true)) 2 encS okS A m cp ([] : List Sm) ∧ CurAt (w5.setCell ⟨g, 1, none⟩ (.bool true)) g (c5.1, true) ∧ w.grownBy (w5.setCell ⟨g, 1, none⟩ (.bool true)) (some g) := by
  obtain ⟨A, c, h1, h2, h3⟩ := Comes.of_own (l := ([] : List Sm)) (encA := encS) (okA := okS) (World.ownsRow_nil (w5.setCell ⟨g, 1, none⟩ (.bool true)) 0 37 2) (fun _ => rfl) (by decide) (fun x hx => absurd hx List.not_mem_nil)
  exact ⟨A, _, c, by rw [h1], h3, CurAt.setB hc true, g_trans hg (g_set g _ _ (Below.refl _ _))⟩
set_option maxRecDepth 20000 in
set_option maxHeartbeats 4000000 in
theorem getB_any (g : Nat) (c : Cu) (w : World) (h : CurAt w g c) (hl : c.1.length ≤ 2199023255552) (hT : Tab w) :
    Calls Tryd.prog 41 #[.pointer (some ⟨g, 0, none⟩)] w fun e w' => ∃ A m cp, e = .returned (.slice A m cp) ∧ Comes w' 2 encS okS A m cp (getB c).1 ∧ CurAt w' g (getB c).2 ∧ w.grownBy w' (some g) := by
  obtain ⟨N, hN⟩ : ∃ N, min (smallC c).1 201 = N := ⟨_, rfl⟩
  have hmin : min ((smallC c).1 : Int) 201 = (N : Int) := by omega
  have hN2 : N ≤ 201 := by omega
  have mw : IntKind.i64.wrap (N : Int) = (N : Int) := by rw [wrapE]; exact wrap_ok (by unfold okI; omega)
  have hgB : getB c = (match StW.readB (unpack (textC 100000 (smallC c).2).1) (N : Int), VaM.readB (unpack (textC 100000 (textC 100000 (smallC c).2).2).1) (N : Int) with
    | some ts, some vs => (zipS ts vs, (textC 100000 (textC 100000 (smallC c).2).2).2)
    | _, _ => ([], ((textC 100000 (textC 100000 (smallC c).2).2).2.1, true))) := by unfold getB; simp only [hN]
  rw [hgB]
  have K1 := Lib.hid (csmall_any g c w h hl)
  have hl1 := Nat.le_trans (smallC_le c) hl
  generalize hc1 : smallC c = c1 at *
  obtain ⟨n1, c1⟩ := c1
  simp only [] at *
  have K2 : Hid (∀ W, CurAt W g c1 → Calls Tryd.prog 64 #[.pointer (some ⟨g, 0, none⟩), .int .i64 100000] W fun e w' => e = .returned (.string (bs (textC 100000 c1).1)) ∧ CurAt w' g (textC 100000 c1).2 ∧ W.grownBy w' (some g)) := Lib.hid (fun W h2 => ctext_any g c1 W h2 hl1)
  have hl2 := Nat.le_trans (textC_le 100000 c1) hl1
  have hs2 := text_size c1
  generalize hc2 : textC 100000 c1 = c2 at *
  obtain ⟨t2, c2⟩ := c2
  simp only [] at *
  have K4 : Hid (∀ W, CurAt W g c2 → Calls Tryd.prog 64 #[.pointer (some ⟨g, 0, none⟩), .int .i64 100000] W fun e w' => e = .returned (.string (bs (textC 100000 c2).1)) ∧ CurAt w' g (textC 100000 c2).2 ∧ W.grownBy w' (some g)) := Lib.hid (fun W h2 => ctext_any g c2 W h2 hl2)
  have hs4 := text_size c2
  generalize hc4 : textC 100000 c2 = c4 at *
  obtain ⟨t4, c4⟩ := c4
  simp only [] at *
  have K3 := Lib.hid (fun W => StW.read_near (bs t2) N W (by rw [bs_size]; omega) (by omega))
  have K5 := Lib.hid (fun W (hT : Tab W) => VaW.read_near (bs t4) N W (by rw [bs_size]; omega) (by omega) hT)
  rw [bs_list] at K3 K5
  have R3 := Lib.hid (fun ts (h : StW.readB (unpack t2) (N : Int) = some ts) => StW.read_only (bs t2) N ts (by rw [bs_list]; exact h))
  have R5 := Lib.hid (fun ts (h : VaM.readB (unpack t4) (N : Int) = some ts) => VaM.read_only (bs t4) N ts (by rw [bs_list]; exact h))
  generalize StW.readB (unpack t2) (N : Int) = RT at *
  generalize VaM.readB (unpack t4) (N : Int) = RV at *
  generalize bs t2 = X2 at *
  generalize bs t4 = X4 at *
  have HT := Lib.hid (And.intro (And.intro hT h) h.lt)
  clear h hl hT hN hgB hc1 hc2 hc4 hl1 hl2 hs2 hs4
  go_enter Tryd.func41, Tryd.ntmps41
  go_wp2_with fail
  refine K1.out.mono ?_
  rintro e w1 ⟨rfl, hc1, hg1⟩
  have H1 := Lib.hid (And.intro hc1 hg1)
  clear hc1 hg1 K1
  go_wp2_with fail
  refine (K2.out _ H1.out.1).mono ?_
  rintro e w2 ⟨rfl, hc2, hg2⟩
  have H2 := Lib.hid (And.intro hc2 (g_trans H1.out.2 hg2))
  clear hc2 hg2 K2 H1
  go_wp2_with fail
  refine (K3.out _).mono ?_
  rintro e w3 ⟨v3, rfl, hown3, hb3⟩
  have H3 := Lib.hid (And.intro (H2.out.1.later hb3) (And.intro (g_trans H2.out.2 (below_g hb3 _)) (And.intro hown3 H2.out.2.size)))
  clear hown3 hb3 K3 H2
  go_wp2_with fail
  refine (K4.out _ H3.out.1).mono ?_
  rintro e w4 ⟨rfl, hc4, hg4⟩
  have hown4 := own_same H3.out.2.2.1 (fun k hk => hg4.block k (own_lt' H3.out.2.2.1 k hk).2 (fun e => by have := Option.some.inj e; have := (own_lt' H3.out.2.2.1 k hk).1; have := HT.out.2; have := H3.out.2.2.2; omega))
  have H4 := Lib.hid (And.intro hc4 (And.intro (g_trans H3.out.2.1 hg4) hown4))
  clear hc4 hg4 hown4 K4 H3
  go_wp2_with fail
  have hT4 : Tab w4 := tab_grown HT.out.1.1 HT.out.1.2 H4.out.2.1
  refine (K5.out _ hT4).mono ?_
  rintro e w5 ⟨v5, rfl, hown5, hb5⟩
  have hown4 := own_same H4.out.2.2 (fun k hk => hb5.block k (own_lt' H4.out.2.2 k hk).2)
  have H5 := Lib.hid (And.intro (H4.out.1.later hb5) (And.intro (g_trans H4.out.2.1 (below_g hb5 _)) (And.intro hown4 hown5)))
  clear hown4 hown5 hb5 hT4 K5 H4
  have hc15 := H5.out.1.c1
  have hf15 : w5.frozen? ⟨g, 1, none⟩ = false := frozen_of_row w5 g 1 _ _ H5.out.1
  have HE := Lib.hid (bad_end H5.out.2.1 H5.out.1)
  cases RT with
  | none =>
    simp only [Option.isSome_none]
    go_wp2_with fail
    go_ret
    exact HE.out
  | some ts =>
    cases RV with
    | none =>
      simp only [Option.isSome_none, Option.isSome_some]
      go_wp2_with fail
      go_ret
      exact HE.out
    | some vs =>
      simp only [Option.isSome_some]
      obtain ⟨-, hlt1, hok1, -⟩ := R3.out ts rfl
      obtain ⟨-, hlv1, hok2, -⟩ := R5.out vs rfl
      have hoT := H5.out.2.2.1
      have hoV := H5.out.2.2.2
      simp only [Option.getD_some] at hoT hoV
      obtain ⟨A3, c3, rfl, -, hC3⟩ := Comes.of_own hoT (fun _ => rfl) (by decide) hok1
      obtain ⟨A5, c5, rfl, -, hC5⟩ := Comes.of_own hoV (fun _ => rfl) (by decide) hok2
      have hlt2 : ts.length = N := by omega
      have hlv2 : vs.length = N := by omega
      rw [hlt2, hlv2]
      have hcap3 : c3 ≤ 9223372036854775807 := hC3.cap
      have hcap5 : c5 ≤ 9223372036854775807 := hC5.cap
      have hle3 := hC3.le
      have hle5 := hC5.le
      rw [hlt2] at hle3
      rw [hlv2] at hle5
      have HC := Lib.hid (And.intro hC3 (And.intro hC5 (And.intro hlt2 (And.intro hlv2 (zip_ok hok1 hok2)))))
      clear hoT hoV hC3 hC5 hlt1 hlv1 hok1 hok2 R3 R5 HE hc15 hf15 hlt2 hlv2 hmin mw
      go_wp2_with fail
      go_loopw [8, 40] (fun v8 v40 wr => ∃ k : Nat, k ≤ N ∧ v40 = .int .i64 k ∧ wr.ownsRow w5.heap.size 37 2 v8 k (((zipS ts vs).take k).flatMap encS) ∧ Below w5.heap.size w5 wr) (fun _ v40 _ => N - (intOf v40).toNat)
      case atStart => exact ⟨0, Nat.zero_le _, rfl, World.ownsRow_nil _ _ _ _, Below.refl _ _⟩
      case round =>
        obtain ⟨k, hk, rfl, hown, ho⟩ := hrel
        have HO := Lib.hid (And.intro ho hown)
        have hoz := ho.size
        by_cases hlt : k < N
        · have hk1 : k < ts.length := by have := HC.out.2.2.1; omega
          have hk2 : k < vs.length := by have := HC.out.2.2.2.1; omega
          obtain ⟨b3, o3, rfl, hcs3⟩ := StW.int_cells HC.out.1.lies hk1
          obtain ⟨b5, o5, rfl, hcs5⟩ := VaW.u_cells HC.out.2.1.lies hk2
          have d3 := hcs3 _ ho
          have d5 := hcs5 _ ho
          have HZ := Lib.hid (zip_take ts vs k hk1 hk2)
          generalize ts[k] = x1 at *
          generalize vs[k] = x2 at *
          have i0 : (0 : Int) ≤ (k : Int) := by omega
          have i1 : (k : Int) < (N : Int) := by omega
          clear hcs3 hcs5 ho hk1 hk2
          go_wp2_with (first
            | (at_builtin; (refine wpList_append_one rfl _ _ 22 rfl w5.heap.size 37 (.agg #[.int .i64 0, .int .u64 0]) 2 16 Tryd.underlying22 elemS rfl (by decide) wr hown rfl _ rfl rfl (one2 rfl rfl) (by omega) (by omega) hoz ?_)
               intro v' w' hown' hb' hz'
               have HF := Lib.hid (And.intro hb' hown')
               clear hown' hb' hz'))
          go_roundw
          case rel =>
            refine ⟨k + 1, by omega, by go_num, ?_, HO.out.1.trans HF.out.1⟩
            rw [HZ.out, List.flatMap_append]; exact HF.out.2
          case measure => simp [intOf]; omega
        · have hkn : k = N := by omega
          subst hkn
          clear ho
          go_wp2_with fail
          go_ret
          have hzl : (zipS ts vs).length = k := by unfold zipS; rw [List.length_zipWith]; have := HC.out.2.2.1; have := HC.out.2.2.2.1; omega
          have ho2 := HO.out.2
          rw [List.take_of_length_le (by omega)] at ho2
          obtain ⟨A8, c8, rfl, -, h8⟩ := Comes.of_own ho2 (fun _ => rfl) (by decide) HC.out.2.2.2.2
          exact ⟨A8, _, c8, rfl, h8, H5.out.1.later HO.out.1, g_trans H5.out.2.1 (below_g HO.out.1 _)⟩
end Go.Proofs.YtdidengokijcjaaDoor.ChW
/-
  chunk.Get: THE WALK.
-/
namespace Go.Proofs.YtdidengokijcjaaDoor.ChW
set_option linter.unusedVariables false
open Go.RowKit FrM FrW StM ChM LabW BitsM BitsW
/-- The check is right: the bytes ahead of it. -/
def goodL (l : Txt) : Prop := ¬ (l.length < 4 ∨ CrcM.ctail (l.take (l.length - 4)) ≠ l.drop (l.length - 4))
theorem cgood_any (l : Txt) (w : World) (hl : l.length ≤ 1000000) (h : goodL l) :
    Calls Tryd.prog 27 #[.string (bs l)] w fun e w' => e = .returned (.tuple #[.string (bs (l.take (l.length - 4))), .bool true]) ∧ Below w.heap.size w w' := by
  unfold goodL at h
  have hz := bs_size l
  have := CrcW.good_yes (bs l) w (by unfold maxLen; omega) (by omega) (by unfold CrcW.Right; rw [bs_list]; exact Decidable.byContradiction (fun h2 => h (.inr h2)))
  refine this.mono ?_
  rintro e w' ⟨rfl, hb⟩
  refine ⟨?_, hb⟩
  have e1 : CrcW.ahead (bs l) = bs (l.take (l.length - 4)) := by
    rw [← bs_of (CrcW.ahead (bs l)), CrcW.ahead_list, bs_list, hz]
  rw [e1]
theorem cbad_any (l : Txt) (w : World) (hl : l.length ≤ 1000000) (h : ¬ goodL l) :
    Calls Tryd.prog 27 #[.string (bs l)] w fun e w' => e = .returned (.tuple #[.string ⟨#[]⟩, .bool false]) ∧ Below w.heap.size w w' := by
  have hz := bs_size l
  by_cases h4 : l.length < 4
  · refine (CrcW.good_short (bs l) w (by omega)).mono ?_
    rintro e w' ⟨rfl, rfl⟩
    exact ⟨rfl, Below.refl _ _⟩
  · refine CrcW.good_no (bs l) w (by unfold maxLen; omega) (by omega) ?_
    unfold CrcW.Right
    rw [bs_list]
    intro h2
    exact h (fun h3 => h3.elim h4 (fun h5 => h5 h2))
end Go.Proofs.YtdidengokijcjaaDoor.ChW
