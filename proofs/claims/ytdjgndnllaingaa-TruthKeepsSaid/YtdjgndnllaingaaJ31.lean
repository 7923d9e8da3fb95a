/-
  truth.tell OF A CHANGE THAT MAY BE: THE WALK.
  WHAT AN OPERATION LEAVES; truth.append: THE WALK.
-/
import Derived.Test.YtdjgndnllaingaaJ30
import Derived.Test.YtdjgndnllaingaaJ23
import Derived.Test.YtdjgndnllaingaaJ08
import Derived.StillTail
import Derived.Deep.RegionHeld3
import Derived.StillTailTactics
/-
  truth.tell OF A CHANGE THAT MAY BE: THE WALK.
-/
namespace Go.Proofs.Ytdjgndnllaingaa.TrW
set_option linter.unusedVariables false
open Go.RowKit Go.Shelf LabM LbM LabW FrW TrM
/-- What tell leaves. -/
def ToldW (w w' : World) (d : Nat) (gen : Int) (o : OpH) (r : RecH) (sm : List Ser) (fm : Int) : Prop := ∃ A9 n9 c9 F9 a1 a3, F9.map absR = sm ∧ DAt w' d A9 n9 c9 fm gen o (.slice a1 1 a3) ∧ StV w' A9 n9 c9 F9 fm ∧ Recs w' a1 1 a3 [r] ∧ w.grownBy w' (some d)
set_option maxRecDepth 20000 in
set_option maxHeartbeats 8000000 in
theorem tell_ok (d : Nat) (A : Option Addr) (n c : Nat) (hs : List SerH) (f gen : Int) (o : OpH) (kd : Int) (A2 : Option Addr) (n2 c2 : Nat) (l : List Lab) (T O V : Int) (w : World) (hd : DAt w d A n c f gen o (.slice none 0 0)) (hst : StV w A n c hs f) (hok : okC w (kd, ((A2, n2, c2), l), T, O, V)) (hap : (applyM (hs.map absR, f) (kd, l, T, O, V)).2 = 0) :
    Calls Try.prog 44 #[.pointer (some ⟨d, 0, none⟩), .agg #[.int .i64 kd, .slice A2 n2 c2, .int .i64 T, .int .i64 O, .int .u64 V]] w fun e w' => e = .returned (.int .i64 0) ∧ ToldW w w' d gen o (kd, ((A2, n2, c2), l), T, O, V) (applyM (hs.map absR, f) (kd, l, T, O, V)).1.1 (applyM (hs.map absR, f) (kd, l, T, O, V)).1.2 := by
  have hdlt := hd.lt
  have hval := valid_apply hst.valid (kd, l, T, O, V)
  obtain ⟨w0, h0⟩ : ∃ w0, w.alloc (.cells (recRow (kd, ((A2, n2, c2), l), T, O, V)) 64 (0, 0)) = w0 := ⟨_, rfl⟩
  have hb0 : Below w.heap.size w w0 := by rw [← h0]; exact (Below.refl _ _).alloc (Nat.le_refl _) _
  have hz0 : w0.heap.size = w.heap.size + 1 := by rw [← h0]; simp
  have hr0 : w0.heap[w.heap.size]? = some (.cells (recRow (kd, ((A2, n2, c2), l), T, O, V)) 64 (0, 0)) := by rw [← h0]; exact heap_alloc_new w _
  obtain ⟨wx, hx⟩ : ∃ wx, w0.alloc (.cells #[.slice none 0 0, .int .i64 0] 28 (0, 0)) = wx := ⟨_, rfl⟩
  have hbx : Below w0.heap.size w0 wx := by rw [← hx]; exact (Below.refl _ _).alloc (Nat.le_refl _) _
  have hK : ∀ W, Below w0.heap.size w0 W → Calls Try.prog 19 #[.agg #[.slice A n c, .int .i64 f], .agg #[.int .i64 kd, .slice A2 n2 c2, .int .i64 T, .int .i64 O, .int .u64 V]] W (ApA (hs.map absR, f) (kd, l, T, O, V) W) := fun W hW =>
    have hbw := later hb0 hW
    have hs1 := hst.later hbw
    apply_any A n c hs f kd A2 n2 c2 l T O V W hs1.sers (by have := hs1.n20; omega) hs1.few hs1.small (hok.lab.later hbw) hok.few hok.t hok.v
  unfold ApA at hK
  generalize applyM (hs.map absR, f) (kd, l, T, O, V) = am at *
  obtain ⟨⟨sm, fm⟩, em⟩ := am
  simp only [] at hap hval hK ⊢
  subst hap
  have KA : Hid (Calls Try.prog 19 #[.agg #[.slice A n c, .int .i64 f], .agg #[.int .i64 kd, .slice A2 n2 c2, .int .i64 T, .int .i64 O, .int .u64 V]] w0.drew fun e w1 => ∃ A9 n9 c9 F9 wy, e = .returned (.tuple #[.agg #[.slice A9 n9 c9, .int .i64 fm], .int .i64 0]) ∧ F9.map absR = sm ∧ w1.alloc (.cells #[.slice A9 n9 c9, .int .i64 fm] 28 (0, 0)) = wy ∧ TellM w wy w1.heap.size d gen o A9 n9 c9 fm F9 (kd, ((A2, n2, c2), l), T, O, V)) :=
    Lib.hid ((hK w0.drew ⟨rfl, rfl, rfl, Nat.le_refl _, fun _ _ => rfl⟩).mono (by
      rintro e w1 ⟨A9, n9, c9, F9, rfl, hS9, hm9, hb1⟩
      exact ⟨A9, n9, c9, F9, _, rfl, hm9, rfl, tell_a hd h0 hok ⟨hS9, by rw [hm9]; exact hval⟩ (show Below w0.heap.size w0 w1 from ⟨hb1.os, hb1.tape, hb1.output, hb1.size, hb1.block⟩)⟩))
  have KB : Hid (Calls Try.prog 19 #[.agg #[.slice A n c, .int .i64 f], .agg #[.int .i64 kd, .slice A2 n2 c2, .int .i64 T, .int .i64 O, .int .u64 V]] wx.drew fun e w1 => ∃ A9 n9 c9 F9, e = .returned (.tuple #[.agg #[.slice A9 n9 c9, .int .i64 fm], .int .i64 0]) ∧ F9.map absR = sm ∧ (∃ v, w1.cell? ⟨w0.heap.size, 0, none⟩ = some v) ∧ w1.frozen? ⟨w0.heap.size, 0, none⟩ = false ∧ ∃ w2, w1.setCell ⟨w0.heap.size, 0, none⟩ (.slice A9 n9 c9) = w2 ∧ (∃ v, w2.cell? ⟨w0.heap.size, 1, none⟩ = some v) ∧ w2.frozen? ⟨w0.heap.size, 1, none⟩ = false ∧ ∃ w3, w2.setCell ⟨w0.heap.size, 1, none⟩ (.int .i64 fm) = w3 ∧ TellM w w3 w0.heap.size d gen o A9 n9 c9 fm F9 (kd, ((A2, n2, c2), l), T, O, V)) :=
    Lib.hid ((hK wx.drew (show Below w0.heap.size w0 wx.drew from ⟨hbx.os, hbx.tape, hbx.output, hbx.size, hbx.block⟩)).mono (by
      rintro e w1 ⟨A9, n9, c9, F9, rfl, hS9, hm9, hb1⟩
      exact ⟨A9, n9, c9, F9, rfl, hm9, tell_b hd h0 hok ⟨hS9, by rw [hm9]; exact hval⟩ (by rw [hx]; exact (show Below wx.heap.size wx w1 from ⟨hb1.os, hb1.tape, hb1.output, hb1.size, hb1.block⟩))⟩))
  rw [hz0] at KB
  have hd0 := hd.later hb0
  obtain ⟨⟨x0, x1⟩, -⟩ := hd0.cells
  obtain ⟨⟨X0, X1⟩, -⟩ := (hd0.later hbx).cells
  have hrx := (hbx.block _ (by omega)).trans hr0
  obtain ⟨y0, y1, y2, y3, y4⟩ : w0.cell? ⟨w.heap.size, 0, none⟩ = some (.int .i64 kd) ∧ w0.cell? ⟨w.heap.size, 1, none⟩ = some (.slice A2 n2 c2) ∧ w0.cell? ⟨w.heap.size, 2, none⟩ = some (.int .i64 T) ∧ w0.cell? ⟨w.heap.size, 3, none⟩ = some (.int .i64 O) ∧ w0.cell? ⟨w.heap.size, 4, none⟩ = some (.int .u64 V) := by
    refine ⟨?_, ?_, ?_, ?_, ?_⟩ <;> (rw [cell_of_row _ _ _ _ _ _ hr0]; rfl)
  obtain ⟨Y0, Y1, Y2, Y3, Y4⟩ : wx.cell? ⟨w.heap.size, 0, none⟩ = some (.int .i64 kd) ∧ wx.cell? ⟨w.heap.size, 1, none⟩ = some (.slice A2 n2 c2) ∧ wx.cell? ⟨w.heap.size, 2, none⟩ = some (.int .i64 T) ∧ wx.cell? ⟨w.heap.size, 3, none⟩ = some (.int .i64 O) ∧ wx.cell? ⟨w.heap.size, 4, none⟩ = some (.int .u64 V) := by
    refine ⟨?_, ?_, ?_, ?_, ?_⟩ <;> (rw [cell_of_row _ _ _ _ _ _ hrx]; rfl)
  have h0' := h0
  unfold recRow hdV at h0'
  simp only [] at h0'
  clear hK hd0 hrx hr0 hval hb0 hbx hst hok hd h0
  go_enter Try.func44, Try.ntmps44
  go_wp2_with fail
  go_region_law
    (first
    | (go_simp
       go_at_call 19
       (with_reducible refine KA.out.mono ?_)
       rintro e w1 ⟨A9, n9, c9, F9, wy, rfl, hsm, hwy, hM⟩)
    | (go_simp
       go_at_call 19
       (with_reducible refine KB.out.mono ?_)
       rintro e w1 ⟨A9, n9, c9, F9, rfl, hsm, ⟨v0, hv0⟩, hf0, w2, hw2, ⟨v1, hv1⟩, hf1, wy, hwy, hM⟩))
  all_goals (
    obtain ⟨c0, c1, w3, w4, w4x, W3, w5, a1, a2, a3, e3, e4, e4x, hap, e5, ⟨⟨u0, b0⟩, b1, ⟨u1, b2⟩, b3⟩, ⟨b4, b5⟩, ⟨b6, b7⟩, hd5, hst5, hrec, ha2, hgr⟩ := hM
    subst ha2
    have HEND := Lib.hid (And.intro hd5 (And.intro hst5 (And.intro hrec (And.intro hgr hsm))))
    obtain ⟨z0, z1, z2, z3, z4⟩ : w4.cell? ⟨w.heap.size, 0, none⟩ = some (.int .i64 kd) ∧ w4.cell? ⟨w.heap.size, 1, none⟩ = some (.slice A2 n2 c2) ∧ w4.cell? ⟨w.heap.size, 2, none⟩ = some (.int .i64 T) ∧ w4.cell? ⟨w.heap.size, 3, none⟩ = some (.int .i64 O) ∧ w4.cell? ⟨w.heap.size, 4, none⟩ = some (.int .u64 V) := by
      refine ⟨?_, ?_, ?_, ?_, ?_⟩ <;> (rw [cell_of_row _ _ _ _ _ _ b5]; rfl)
    have b4x : w4x.cell? ⟨d, 10, none⟩ = some (.slice none 0 0) := by
      rw [← e4x]
      exact (World.cell?_of_block (Below.heap_alloc _ _ _ (World.block_lt_of_cell? _ _ b4))).trans b4
    unfold recRow hdV at e4x
    simp only [] at e4x
    clear b5 hwy hd5 hst5 hrec hgr hsm KA KB x0 x1 X0 X1 y0 y1 y2 y3 y4 Y0 Y1 Y2 Y3 Y4 hx h0')
  all_goals (
    go_wp2_with fail
    go_region_law
      (refine step_append_runI (by rfl) _ _ _ _ (by rfl) _ _ (by rfl) (by rfl) (hap _) ?_)
    all_goals (
      go_wp2_with fail
      obtain ⟨q1, q2, q3, q4, q5⟩ := HEND.out
      exact bodyPost_ret (v := .int .i64 0) (by simp [results, Try.results44, go_sem]) rfl ⟨rfl, A9, n9, c9, F9, a1, a3, q5, q1, q2, q3, q4⟩))
end Go.Proofs.Ytdjgndnllaingaa.TrW
/-
  WHAT AN OPERATION LEAVES; truth.append: THE WALK.
-/
namespace Go.Proofs.Ytdjgndnllaingaa.TrW
set_option linter.unusedVariables false
open Go.RowKit Go.Shelf LabM LbM LabW FrW TrM
/-- An operation in memory. -/
structure OkO (w : World) (o : OpH) : Prop where
  ls : Comes w 2 encL okL o.ls.1.1 o.ls.1.2.1 o.ls.1.2.2 o.ls.2
  few : fewB o.ls.2 = true
  ms : Comes w 3 encM okM o.ms.1.1 o.ms.1.2.1 o.ms.1.2.2 o.ms.2
  fewm : o.ms.2.length ≤ 10
  t : -9223372036854775808 ≤ o.t ∧ o.t ≤ 9223372036854775807
  te : -9223372036854775808 ≤ o.te ∧ o.te ≤ 9223372036854775807
  v : 0 ≤ o.v ∧ o.v < 18446744073709551616
theorem OkO.later {w w' : World} {o : OpH} (h : OkO w o) (hb : Below w.heap.size w w') : OkO w' o := ⟨h.ls.later hb, h.few, h.ms.later hb, h.fewm, h.t, h.te, h.v⟩
def absO (o : OpH) : TrM.Op := ⟨o.kd, o.ls.2, o.ms.2, o.t, o.te, o.v, o.g⟩
theorem Recs.nil (w : World) : Recs w none 0 0 [] := ⟨Comes.nil _ _ _ _, fun x hx => by cases hx⟩
/-- What an operation leaves. -/
def Deed (res : St × Ans × List Rec) (w : World) (d : Nat) (gen : Int) (o : OpH) (e : Ending) (w' : World) : Prop :=
  ∃ A9 n9 c9 F9 AR nr cr RS AS ns cs SS, e = .returned (.agg #[.int .i64 res.2.1.1, .int .i64 res.2.1.2.1, .slice AS ns cs]) ∧ DAt w' d A9 n9 c9 res.1.2 gen o (.slice AR nr cr) ∧ StV w' A9 n9 c9 F9 res.1.2 ∧ F9.map absR = res.1.1 ∧ Recs w' AR nr cr RS ∧ RS.map absC = res.2.2 ∧ Sers w' AS ns cs SS ∧ SS.map absR = res.2.1.2.2 ∧ w.grownBy w' (some d)
theorem Deed.still {w w' : World} {d : Nat} {A : Option Addr} {n c : Nat} {hs : List SerH} {f gen : Int} {o : OpH} {e : Int} (hd : DAt w d A n c f gen o (.slice none 0 0)) (hst : StV w A n c hs f) (hb : Below w.heap.size w w') (AS : Option Addr) (ns cs : Nat) (SS : List SerH) (hS : Sers w' AS ns cs SS) :
    Deed ((hs.map absR, f), (e, 0, SS.map absR), []) w d gen o (.returned (.agg #[.int .i64 e, .int .i64 0, .slice AS ns cs])) w' :=
  ⟨A, n, c, hs, none, 0, 0, [], AS, ns, cs, SS, rfl, hd.later hb, hst.later hb, rfl, Recs.nil _, rfl, hS, rfl, hb.os, hb.tape, hb.output, hb.size, fun k hk _ => hb.block k hk⟩
theorem Deed.told {w w' : World} {d : Nat} {gen : Int} {o : OpH} {r : RecH} {sm : List Ser} {fm : Int} {N : Int} (h : ToldW w w' d gen o r sm fm) :
    Deed ((sm, fm), (0, N, []), [absC r]) w d gen o (.returned (.agg #[.int .i64 0, .int .i64 N, .slice none 0 0])) w' := by
  obtain ⟨A9, n9, c9, F9, a1, a3, h1, h2, h3, h4, h5⟩ := h
  exact ⟨A9, n9, c9, F9, a1, 1, a3, [r], none, 0, 0, [], rfl, h2, h3, h1, h4, rfl, Sers.nil _, rfl, h5⟩
theorem apply_do {s : St} {l : List Lab} {t v gen : Int} (ha : allowed s l (t, v) gen = (0, false)) : applyM s (0, l, t, 0, v) = (putM s l (t, v), 0) := by
  unfold applyM
  simp only []
  rw [if_pos trivial, allowed_3 ha, if_neg (by decide)]
theorem Recs.off {W W' : World} {A : Option Addr} {n c : Nat} {rs : List RecH} (h : Recs W A n c rs) {k : Nat} {cs : Array Value} {t : TypeId} (hk : W.heap[k]? = some (.cells cs t (0, 0))) (hcs : Alien cs) (h4 : cs.size ≤ 4) (hW : ∀ j, j ≠ k → W'.heap[j]? = W.heap[j]?) (hsz : W.heap.size ≤ W'.heap.size) : Recs W' A n c rs :=
  ⟨Comes.off h.row (fun x o hc => by
    have h1 := hc 4 _ rfl
    rw [cell_of_row _ _ _ _ _ _ hk, Array.getElem?_eq_none (by omega)] at h1
    cases h1) hW hsz, fun x hx => ⟨Comes.off (h.ok x hx).lab (off_lab hk hcs.lab) hW hsz, (h.ok x hx).few, (h.ok x hx).t, (h.ok x hx).v⟩⟩
def ansRow (e n : Int) (A : Option Addr) (m c : Nat) : Array Value := #[.int .i64 e, .int .i64 n, .slice A m c]
/-- Behind tell: the answer laid. -/
theorem told_end {w W1 w2 : World} {d : Nat} {gen : Int} {o : OpH} {r : RecH} {sm : List Ser} {fm : Int} (hb : Below w.heap.size w W1) {e0 n0 : Int} (hr : W1.heap[w.heap.size]? = some (.cells (ansRow e0 n0 none 0 0) 31 (0, 0))) (h : ToldW W1 w2 d gen o r sm fm) (hd : d < w.heap.size) :
    w2.heap[w.heap.size]? = some (.cells (ansRow e0 n0 none 0 0) 31 (0, 0)) ∧ ∀ cs, ToldW w (w2.setRow w.heap.size cs) d gen o r sm fm := by
  obtain ⟨A9, n9, c9, F9, a1, a3, h1, h2, h3, h4, h5⟩ := h
  have hlt := (Array.getElem?_eq_some_iff.1 hr).1
  have hr2 : w2.heap[w.heap.size]? = some (.cells (ansRow e0 n0 none 0 0) 31 (0, 0)) := (h5.block _ hlt (by simp; omega)).trans hr
  have hal : Alien (ansRow e0 n0 none 0 0) := alien_answer _ _ _ _ _
  refine ⟨hr2, fun cs => ⟨A9, n9, c9, F9, a1, a3, h1, (setRow_other _ _ _ _ (by omega)).trans h2, h3.off hr2 hal (fun j hj => setRow_other _ _ _ _ hj) (by simp), h4.off hr2 hal (by simp [ansRow]) (fun j hj => setRow_other _ _ _ _ hj) (by simp), ?_⟩⟩
  have hx := below_setRow (B := 0) (Below.refl 0 w2) (Nat.zero_le w.heap.size) cs
  refine ⟨hx.os.trans (h5.os.trans hb.os), hx.tape.trans (h5.tape.trans hb.tape), hx.output.trans (h5.output.trans hb.output), by have := h5.size; have := hb.size; have := hx.size; omega, fun k hk hne => ?_⟩
  exact (setRow_other _ _ _ _ (by omega)).trans ((h5.block k (by omega) hne).trans (hb.block k hk))
theorem info_A : (Try.prog.info? 31).map (·.size) = some 3 := by kernel_rfl
set_option maxRecDepth 20000 in
set_option maxHeartbeats 8000000 in
theorem append_do (d : Nat) (A : Option Addr) (n c : Nat) (hs : List SerH) (f gen : Int) (o : OpH) (w : World) (hd : DAt w d A n c f gen o (.slice none 0 0)) (hst : StV w A n c hs f) (ho : OkO w o) (hk : o.kd = 0) :
    Calls Try.prog 21 #[.pointer (some ⟨d, 0, none⟩)] w (Deed (doM (hs.map absR, f) (absO o) gen) w d gen o) := by
  have hdlt := hd.lt
  obtain ⟨w0, h0⟩ : ∃ w0, w.alloc (.cells (ansRow 0 0 none 0 0) 31 (0, 0)) = w0 := ⟨_, rfl⟩
  have hb0 : Below w.heap.size w w0 := by rw [← h0]; exact (Below.refl _ _).alloc (Nat.le_refl _) _
  have hz0 : w0.heap.size = w.heap.size + 1 := by rw [← h0]; simp
  have hr0 : w0.heap[w.heap.size]? = some (.cells (ansRow 0 0 none 0 0) 31 (0, 0)) := by rw [← h0]; exact heap_alloc_new w _
  have KA := Lib.hid (fun (W : World) (hW : Below w.heap.size w W) => allowed_any A n c hs f o.ls.1.1 o.ls.1.2.1 o.ls.1.2.2 o.ls.2 o.t o.v gen W (hst.later hW).sers (by have := hst.n20; omega) hst.few hst.small (ho.later hW).ls ho.few)
  have HD := Lib.hid (fun (W : World) (hW : Below w.heap.size w W) => hd.later hW)
  obtain ⟨⟨x0, x1⟩, x2, x3, x4, x5, x6, x7, x8, x9⟩ := (hd.later hb0).cells
  have HR := Lib.hid (And.intro hb0 hr0)
  have HH := Lib.hid (And.intro hd (And.intro hst ho))
  unfold hdV at x4 x5
  unfold ansRow at h0
  clear hb0 hr0 hd hst ho
  by_cases ha : allowed (hs.map absR, f) o.ls.2 (o.t, o.v) gen = (0, false)
  · rw [show doM (hs.map absR, f) (absO o) gen = (putM (hs.map absR, f) o.ls.2 (o.t, o.v), (0, 1, []), [(0, o.ls.2, o.t, 0, o.v)]) from (do_put (o := absO o) hk).trans (if_pos ha)]
    have KT := Lib.hid (fun (W : World) (hW : Below w.heap.size w W) => tell_ok d A n c hs f gen o 0 o.ls.1.1 o.ls.1.2.1 o.ls.1.2.2 o.ls.2 o.t 0 o.v W (HH.out.1.later hW) (HH.out.2.1.later hW) ⟨(HH.out.2.2.later hW).ls, HH.out.2.2.few, HH.out.2.2.t, HH.out.2.2.v⟩ (by rw [apply_do ha]))
    rw [apply_do ha] at KT
    rw [ha] at KA
    obtain ⟨Q, hQ⟩ : ∃ Q, Deed (putM (hs.map absR, f) o.ls.2 (o.t, o.v), (0, 1, []), [(0, o.ls.2, o.t, 0, o.v)]) w d gen o = Q := ⟨_, rfl⟩
    rw [hQ]
    have HFIN := Lib.hid (fun (W1 w2 : World) (hb : Below w.heap.size w W1) (hr : W1.heap[w.heap.size]? = some (.cells (ansRow 0 0 none 0 0) 31 (0, 0))) (h : ToldW W1 w2 d gen o (0, ((o.ls.1.1, o.ls.1.2.1, o.ls.1.2.2), o.ls.2), o.t, 0, o.v) (putM (hs.map absR, f) o.ls.2 (o.t, o.v)).1 (putM (hs.map absR, f) o.ls.2 (o.t, o.v)).2) =>
      (⟨(told_end hb hr h hdlt).1, by rw [← hQ]; exact Deed.told ((told_end hb hr h hdlt).2 (ansRow 0 1 none 0 0))⟩ : w2.heap[w.heap.size]? = some (.cells (ansRow 0 0 none 0 0) 31 (0, 0)) ∧ Q (.returned (.agg #[.int .i64 0, .int .i64 1, .slice none 0 0])) (w2.setRow w.heap.size (ansRow 0 1 none 0 0))))
    clear hQ
    generalize putM (hs.map absR, f) o.ls.2 (o.t, o.v) = pm at *
    have K2 := Lib.hid (fun (W : World) (hb1 : Below w0.drew.heap.size w0.drew W) =>
      have h := HD.out W (later HR.out.1 (show Below w0.heap.size w0 W from ⟨hb1.os, hb1.tape, hb1.output, hb1.size, hb1.block⟩))
      (⟨h.cells.1.1, h.cells.1.2, h.cells.2.1, h.cells.2.2.2.1, h.cells.2.2.2.2.2.1, h.cells.2.2.2.2.2.2.2.1⟩ : W.cell? ⟨d, 0, none⟩ = some (.slice A n c) ∧ W.cell? ⟨d, 1, none⟩ = some (.int .i64 f) ∧ W.cell? ⟨d, 2, none⟩ = some (.int .i64 gen) ∧ W.cell? ⟨d, 4, none⟩ = some (.slice o.ls.1.1 o.ls.1.2.1 o.ls.1.2.2) ∧ W.cell? ⟨d, 6, none⟩ = some (.int .i64 o.t) ∧ W.cell? ⟨d, 8, none⟩ = some (.int .u64 o.v)))
    go_enter Try.func21, Try.ntmps21
    go_wp2_with fail
    go_region_held3 (fun W : World => W.cell? ⟨d, 0, none⟩ = some (.slice A n c) ∧ W.cell? ⟨d, 1, none⟩ = some (.int .i64 f) ∧ W.cell? ⟨d, 2, none⟩ = some (.int .i64 gen) ∧ W.cell? ⟨d, 4, none⟩ = some (.slice o.ls.1.1 o.ls.1.2.1 o.ls.1.2.2) ∧ W.cell? ⟨d, 6, none⟩ = some (.int .i64 o.t) ∧ W.cell? ⟨d, 8, none⟩ = some (.int .u64 o.v))
      (first | exact ⟨x0, x1, x2, x4, x6, x8⟩ | exact K2.out _ (by assumption))
      (first
      | (go_at_call 35; refine (KA.out _ (show Below w.heap.size w w0.drew from ⟨HR.out.1.os, HR.out.1.tape, HR.out.1.output, HR.out.1.size, HR.out.1.block⟩)).mono ?_; rintro e w1 ⟨rfl, hb1⟩; unfold alV))
    rename_i hh
    clear hh
    have hb1' : Below w0.heap.size w0 w1 := ⟨hb1.os, hb1.tape, hb1.output, hb1.size, hb1.block⟩
    have hr1 := (hb1'.block _ (by omega)).trans HR.out.2
    have hbw1 := later HR.out.1 hb1'
    have H1 := Lib.hid (And.intro hbw1 hr1)
    have hd1 := HD.out _ hbw1
    clear hb1 hb1' hbw1 hr1 x0 x1 x2 x3 x4 x5 x6 x7 x8 x9 KA h0
    obtain ⟨⟨x0, x1⟩, x2, x3, x4, x5, x6, x7, x8, x9⟩ := hd1.cells
    unfold hdV at x4 x5
    clear hd1 K2
    go_wp2_with fail
    go_still_tail 17, (by kernel_rfl)
    go_wp2_with fail
    refine (KT.out _ (show Below w.heap.size w w1.drew from ⟨H1.out.1.os, H1.out.1.tape, H1.out.1.output, H1.out.1.size, H1.out.1.block⟩)).mono ?_
    rintro e w2 ⟨rfl, hT⟩
    have HF := HFIN.out w1.drew w2 (show Below w.heap.size w w1.drew from ⟨H1.out.1.os, H1.out.1.tape, H1.out.1.output, H1.out.1.size, H1.out.1.block⟩) H1.out.2 hT
    have hr2 := HF.1
    have HF2 := Lib.hid HF.2
    clear hT HF x0 x1 x2 x3 x4 x5 x6 x7 x8 x9 KT HFIN
    unfold ansRow at hr2 HF2
    go_wp2_with (refine wpList_store_row rfl 31 _ _ rfl w.heap.size #[.int .i64 0, .int .i64 1, .slice none 0 0] rfl rfl 31 _ hr2 info_A rfl (by simp [Value.oneCell']) ?_)
    have hr3 := setRow_heap w2 w.heap.size _ #[.int .i64 0, .int .i64 1, .slice none 0 0] 31 (0, 0) hr2
    exact bodyPost_ret (v := .agg #[.int .i64 0, .int .i64 1, .slice none 0 0]) (results_cell_row (Try.results21) _ _ w.heap.size 31 _ (0, 0) _ rfl hr3 Try.underlying31 rfl info_A) rfl HF2.out
  · rw [show doM (hs.map absR, f) (absO o) gen = ((hs.map absR, f), ((allowed (hs.map absR, f) o.ls.2 (o.t, o.v) gen).1, 0, []), []) from (do_put (o := absO o) hk).trans (if_neg ha)]
    generalize allowed (hs.map absR, f) o.ls.2 (o.t, o.v) gen = p at *
    obtain ⟨er, tb⟩ := p
    simp only []
    obtain ⟨Q, hQ⟩ : ∃ Q, Deed ((hs.map absR, f), (er, 0, []), []) w d gen o = Q := ⟨_, rfl⟩
    rw [hQ]
    have HFIN := Lib.hid (fun (W1 : World) (hb : Below w.heap.size w W1) =>
      (by rw [← hQ]; exact Deed.still HH.out.1 HH.out.2.1 (below_setRow hb (Nat.le_refl _) (ansRow er 0 none 0 0)) none 0 0 [] (Sers.nil _) : Q (.returned (.agg #[.int .i64 er, .int .i64 0, .slice none 0 0])) (W1.setRow w.heap.size (ansRow er 0 none 0 0))))
    clear hQ
    have K2 := Lib.hid (fun (W : World) (hb1 : Below w0.drew.heap.size w0.drew W) =>
      have h := HD.out W (later HR.out.1 (show Below w0.heap.size w0 W from ⟨hb1.os, hb1.tape, hb1.output, hb1.size, hb1.block⟩))
      (⟨h.cells.1.1, h.cells.1.2, h.cells.2.1, h.cells.2.2.2.1, h.cells.2.2.2.2.2.1, h.cells.2.2.2.2.2.2.2.1⟩ : W.cell? ⟨d, 0, none⟩ = some (.slice A n c) ∧ W.cell? ⟨d, 1, none⟩ = some (.int .i64 f) ∧ W.cell? ⟨d, 2, none⟩ = some (.int .i64 gen) ∧ W.cell? ⟨d, 4, none⟩ = some (.slice o.ls.1.1 o.ls.1.2.1 o.ls.1.2.2) ∧ W.cell? ⟨d, 6, none⟩ = some (.int .i64 o.t) ∧ W.cell? ⟨d, 8, none⟩ = some (.int .u64 o.v)))
    go_enter Try.func21, Try.ntmps21
    go_wp2_with fail
    go_region_held3 (fun W : World => W.cell? ⟨d, 0, none⟩ = some (.slice A n c) ∧ W.cell? ⟨d, 1, none⟩ = some (.int .i64 f) ∧ W.cell? ⟨d, 2, none⟩ = some (.int .i64 gen) ∧ W.cell? ⟨d, 4, none⟩ = some (.slice o.ls.1.1 o.ls.1.2.1 o.ls.1.2.2) ∧ W.cell? ⟨d, 6, none⟩ = some (.int .i64 o.t) ∧ W.cell? ⟨d, 8, none⟩ = some (.int .u64 o.v))
      (first | exact ⟨x0, x1, x2, x4, x6, x8⟩ | exact K2.out _ (by assumption))
      (first
      | (go_at_call 35; refine (KA.out _ (show Below w.heap.size w w0.drew from ⟨HR.out.1.os, HR.out.1.tape, HR.out.1.output, HR.out.1.size, HR.out.1.block⟩)).mono ?_; rintro e w1 ⟨rfl, hb1⟩; unfold alV))
    rename_i hh
    clear hh
    have hb1' : Below w0.heap.size w0 w1 := ⟨hb1.os, hb1.tape, hb1.output, hb1.size, hb1.block⟩
    have hr1 := (hb1'.block _ (by omega)).trans HR.out.2
    have hbw1 := later HR.out.1 hb1'
    have H1 := Lib.hid (And.intro hbw1 hr1)
    have hd1 := HD.out _ hbw1
    have hr2 := H1.out.2
    have HF2 := Lib.hid (HFIN.out _ H1.out.1)
    unfold ansRow at hr2 HF2
    clear hd1 hb1 hb1' hbw1 hr1 x0 x1 x2 x3 x4 x5 x6 x7 x8 x9 KA h0 K2 HFIN
    by_cases he : er = 0
    · subst he
      have htb : tb = true := by cases tb; exact absurd rfl ha; rfl
      subst htb
      clear ha
      go_wp2_with (refine wpList_store_row rfl 31 _ _ rfl w.heap.size #[.int .i64 0, .int .i64 0, .slice none 0 0] rfl rfl 31 _ hr2 info_A rfl (by simp [Value.oneCell']) ?_)
      have hr3 := setRow_heap w1 w.heap.size _ #[.int .i64 0, .int .i64 0, .slice none 0 0] 31 (0, 0) hr2
      exact bodyPost_ret (v := .agg #[.int .i64 0, .int .i64 0, .slice none 0 0]) (results_cell_row (Try.results21) _ _ w.heap.size 31 _ (0, 0) _ rfl hr3 Try.underlying31 rfl info_A) rfl HF2.out
    · have hne : (er != 0) = true := by simpa using he
      go_wp2_with (refine wpList_store_row rfl 31 _ _ rfl w.heap.size #[.int .i64 er, .int .i64 0, .slice none 0 0] rfl rfl 31 _ hr2 info_A rfl (by simp [Value.oneCell']) ?_)
      have hr3 := setRow_heap w1 w.heap.size _ #[.int .i64 er, .int .i64 0, .slice none 0 0] 31 (0, 0) hr2
      exact bodyPost_ret (v := .agg #[.int .i64 er, .int .i64 0, .slice none 0 0]) (results_cell_row (Try.results21) _ _ w.heap.size 31 _ (0, 0) _ rfl hr3 Try.underlying31 rfl info_A) rfl HF2.out
end Go.Proofs.Ytdjgndnllaingaa.TrW
