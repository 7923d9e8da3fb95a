/-
  match.Select: THE WALK.
-/
import Derived.Test.YtdacefmcnjoboaaMatSel
import Derived.RangeFuncBox
import Derived.Maps.AppendAt
namespace Go.Proofs.Ytdacefmcnjoboaa.LabW
open Go.RowKit Go.Shelf LabM
attribute [local go_sem] Oper.semAt_some wide_fn wide_depth wide_fn_in wide_depth_in
def encN (i : Nat) : List Value := [.int .i64 (i : Int)]
theorem Comes.agree {α : Type} {w W : World} {size : Nat} {encA : α → List Value} {okA : α → Prop} {A : Option Addr} {n c : Nat} {l : List α} (h : Comes w size encA okA A n c l) (hb : Below w.heap.size w W) : Comes W size encA okA A n c l := h.later hb
/-- What stands while the places are told: h: the heap's size where the call began. -/
structure SelO (h : Nat) (A1 : Option Addr) (n1 c1 : Nat) (A : Option Addr) (n c : Nat) (w W : World) : Prop where
  below : Below h w W
  size : h + 3 ≤ W.heap.size
  bm : Boxed W (h + 1) 22 (.slice A1 n1 c1)
  bl : Boxed W (h + 2) 23 (.slice A n c)
theorem SelO.later {h n1 c1 n c : Nat} {A1 A : Option Addr} {w W W' : World} (o : SelO h A1 n1 c1 A n c w W) (hb : Below W.heap.size W W') : SelO h A1 n1 c1 A n c w W' :=
  ⟨o.below.trans (hb.mono (by have := o.size; omega)), by have := o.size; have := hb.size; omega, (hb.block _ o.bm.lt).trans o.bm, (hb.block _ o.bl.lt).trans o.bl⟩
theorem SelO.putObj {h n1 c1 n c l : Nat} {A1 A : Option Addr} {w W : World} {o o' : Obj} (q : SelO h A1 n1 c1 A n c w W) (hlo : h ≤ l) (hl : W.heap[l]? = some o) (ho : o.isCells = false) : SelO h A1 n1 c1 A n c w (W.putObj l o') :=
  ⟨⟨q.below.os, q.below.tape, q.below.output, by simp; exact q.below.size, fun k hk => (World.putObj_heap_other (by omega)).trans (q.below.block k hk)⟩, by simp; exact q.size,
    by unfold Boxed; rw [World.putObj_heap_other (by intro e; have := q.bm; unfold Boxed at this; rw [e, hl] at this; cases this; cases ho)]; exact q.bm,
    by unfold Boxed; rw [World.putObj_heap_other (by intro e; have := q.bl; unfold Boxed at this; rw [e, hl] at this; cases this; cases ho)]; exact q.bl⟩
theorem elemI : Elem Try.prog 3 (.int .i64 0) 1 8 := by unfold Elem; kernel_rfl
theorem places_le (ms : List Mat) (ls : List Hdr) : (places ms ls).length ≤ ls.length := by
  have := List.length_filter_le (fun i => match ls[i]? with | some x => allB ms x.2 | none => false) (List.range ls.length)
  rw [List.length_range] at this
  exact this
def selTmps (h : Nat) (A1 : Option Addr) (n1 c1 : Nat) (A : Option Addr) (n c : Nat) (i : Int) : Array Value := #[.slice A1 n1 c1, .slice A n c, undef, undef, .slice none 0 0, .pointer (some ⟨h, 0, none⟩), .int .i64 i, .slice A1 n1 c1, .slice A n c,
  .func (.func 46) #[] #[.pointer (some ⟨h + 1 + 1, 0, none⟩), .pointer (some ⟨h + 1, 0, none⟩)], .int .i64 i, undef, undef, undef, undef, undef]
set_option maxRecDepth 100000 in
set_option maxHeartbeats 2000000 in
theorem select_any (A1 : Option Addr) (n1 c1 : Nat) (ms : List Mat) (A : Option Addr) (n c : Nat) (ls : List Hdr) (w : World) (hms : Comes w 3 encM okM A1 n1 c1 ms) (hl : Comes w 1 encH (fun _ => True) A n c ls) (hs : ∀ x ∈ ls, okH w x) (hn1 : n1 ≤ 1000000) (hn : n ≤ 1000000) :
    Calls Try.prog 20 #[.slice A1 n1 c1, .slice A n c] w fun e w' => ∃ v, e = .returned v ∧ w'.ownsRow w.heap.size 3 1 v (places ms ls).length ((places ms ls).flatMap encN) ∧ Below w.heap.size w w' := by
  have HM := Lib.hid hms
  have HL := Lib.hid hl
  have HS := Lib.hid hs
  have hpl : (places ms ls).length ≤ n := by have := places_le ms ls; have := hl.len; omega
  clear hms hl hs
  obtain ⟨F, hF⟩ : ∃ F, places ms ls = F := ⟨_, rfl⟩
  obtain ⟨h, hh⟩ : ∃ h, w.heap.size = h := ⟨_, rfl⟩
  refine (callsIn_wide (n := 3)).1 ?_
  refine callsIn_of_wp_marks Try.func20 rfl trivial ?_ rfl
  simp only [Try.ntmps20, List.size_toArray, List.length_cons, List.length_nil, Nat.reduceAdd, Nat.reduceSub, Array.replicate_succ, Array.replicate_zero, List.push_toArray, List.append_toArray, List.nil_append, List.cons_append]
  have HH := Lib.hid hh
  have HF := Lib.hid hF
  clear hh hF
  gi_wp2_with fail
  refine (callsIn_wide.2 (each_any _ _ _ _ _ _ _)).mono ?_
  rintro e w' ⟨rfl, rfl⟩
  rw [show (w.alloc (.cells #[.slice none 0 0] 35)).heap.size = h + 1 from by simp [HH.out], HH.out]
  have hboth : ∃ w5 : World, ((w.alloc (.cells #[.slice none 0 0] 35)).alloc (.cells #[.slice A1 n1 c1] 22)).alloc (.cells #[.slice A n c] 23) = w5 ∧ w5.heap.size = h + 3 ∧ SelO h A1 n1 c1 A n c w w5 ∧ Boxed w5 h 35 (.slice none 0 0) := by
    have z0 : w.heap.size = h := HH.out
    have b1 := Boxed.new w 35 (.slice none 0 0)
    rw [z0] at b1
    have b2 := Boxed.new (w.alloc (.cells #[.slice none 0 0] 35)) 22 (.slice A1 n1 c1)
    have b3 := Boxed.new ((w.alloc (.cells #[.slice none 0 0] 35)).alloc (.cells #[.slice A1 n1 c1] 22)) 23 (.slice A n c)
    rw [show (w.alloc (.cells #[.slice none 0 0] 35)).heap.size = h + 1 from by simp [z0]] at b2
    rw [show ((w.alloc (.cells #[.slice none 0 0] 35)).alloc (.cells #[.slice A1 n1 c1] 22)).heap.size = h + 2 from by simp [z0]] at b3
    refine ⟨_, rfl, by simp [z0], ⟨?_, by simp [z0], b2.alloc _, b3⟩, (b1.alloc _).alloc _⟩
    rw [← z0]
    exact (((Below.refl _ _).alloc (Nat.le_refl _) _).alloc (by simp) _).alloc (by simp; omega) _
  obtain ⟨w5, hw5, z5, ho5, hb5⟩ := hboth
  rw [hw5]
  have HO5 := Lib.hid (And.intro ho5 (And.intro hb5 z5))
  clear hw5 ho5 hb5 z5
  gi_wp2_with fail
  refine wpIn_rangeFunc_stR (σ := Nat) (gf := 46) (lb := #[.pointer (some ⟨h + 1 + 1, 0, none⟩), .pointer (some ⟨h + 1, 0, none⟩)]) rfl (enters_of Try.func46 (by kernel_rfl) rfl)
    (each_iter (h + 1 + 1) (h + 1) A1 n1 c1 ms A n c ls (SelO h A1 n1 c1 A n c w) hn1 ?hO ?hOB) (fun _ => rfl) (fun W W' hb => KeepsNon.below hb) (fun s W W' hb => KeepsNon.below hb)
    (fun j W => SelO h A1 n1 c1 A n c w W ∧ ∃ v, Boxed W h 35 v ∧ W.ownsRow h 3 1 v j ((F.take j).flatMap encN))
    (fun j W => SelO h A1 n1 c1 A n c w W ∧ ∃ v, Boxed W h 35 v ∧ W.ownsRow h 3 1 v (j + 1) ((F.take (j + 1)).flatMap encN))
    ?own ?own' ?step ?hI ?hI' ?begins ?start ?a1 ?assign ?body ?done
  case a1 => exact fun j => { tmps := selTmps h A1 n1 c1 A n c (((places ms ls)[j]?.getD 0 : Nat) : Int), defers := [] }
  case hO =>
    intro W q
    have hbw : Below w.heap.size w W := by rw [HH.out]; exact q.below
    exact ⟨q.bl.cell, q.bm.cell, HL.out.later hbw, fun x hx => ⟨(HS.out x hx).1.later hbw, (HS.out x hx).2⟩, HM.out.later hbw⟩
  case hOB => exact fun W W' q hb => q.later hb
  case own => exact fun s W hq => hq.1
  case own' => exact fun s W hq => hq.1
  case step =>
    rintro j W W' hj ⟨q, v, hv, hr⟩ hb
    exact ⟨q.later hb, v, (hb.block _ hv.lt).trans hv, own_later hr hb⟩
  case hI =>
    rintro j W l o o' ⟨q, v, hv, hr⟩ hlo hlw ho
    have hlo' : h + 3 ≤ l := by rw [← HO5.out.2.2]; exact hlo
    refine ⟨q.putObj (by omega) hlw ho, v, ?_, ownsRow_putObj hr o' hlw ho⟩
    unfold Boxed; rw [World.putObj_heap_other (by omega)]; exact hv
  case hI' =>
    rintro j W l o o' ⟨q, v, hv, hr⟩ hlo hlw ho
    have hlo' : h + 3 ≤ l := by rw [← HO5.out.2.2]; exact hlo
    refine ⟨q.putObj (by omega) hlw ho, v, ?_, ownsRow_putObj hr o' hlw ho⟩
    unfold Boxed; rw [World.putObj_heap_other (by omega)]; exact hv
  case begins =>
    intro o1 o2
    exact HO5.out.1.later (((Below.refl _ _).alloc (Nat.le_refl _) _).alloc (by simp) _)
  case start =>
    intro o1 o2 W' h1 h2 hb
    have hb0 : Below w5.heap.size w5 W' := (((Below.refl _ _).alloc (Nat.le_refl _) o1).alloc (by simp) o2).trans (hb.mono (by simp; omega))
    exact ⟨HO5.out.1.later hb0, _, (hb0.block _ HO5.out.2.1.lt).trans HO5.out.2.1, World.ownsRow_nil _ _ _ _⟩
  case assign =>
    intro l m s W K hK
    unfold selTmps at hK
    gi_wp2
    exact hK
  case body =>
    rintro l m j W hj ⟨q, v, hv, hr⟩
    rw [HF.out] at hj
    obtain ⟨x, hx⟩ : ∃ x, F[j] = x := ⟨_, rfl⟩
    have hgd : (places ms ls)[j]?.getD 0 = x := by rw [HF.out, List.getElem?_eq_getElem hj, hx]; rfl
    have htk : (F.take (j + 1)).flatMap encN = (F.take j).flatMap encN ++ [.int .i64 (x : Int)] := by
      rw [take_snocL F j hj, List.flatMap_append, List.flatMap_singleton, hx]; rfl
    have hjn : j ≤ 1000000 := by have h1 := hpl; rw [HF.out] at h1; omega
    have hc0 := hv.cell
    have hsz := q.size
    have HX := Lib.hid (And.intro q (And.intro hv (And.intro hr htk)))
    obtain ⟨i0, hi, hz0, hz1, hz2⟩ := info_parts elemI
    rw [hgd]
    unfold selTmps
    clear hx hgd htk hj q hv
    gi_wp2_with (gi_at_builtin; refine wpListIn_append_own _ rfl _ _ 35 rfl h 3 i0 (.int .i64 0) 1 8 Try.underlying35 hi hz0 hz1 hz2 rfl (by decide) _ _ _ rfl (hr.alloc _) ⟨W.heap.size, 0, none⟩ 1 1 [.int .i64 (x : Int)] rfl rfl (cell_one_new _ _ _) (by simp [Value.oneCell']) (by unfold maxLen; omega) (by omega) (by simp; omega) ?_; intro v' w1 hown' hgrow _; obtain ⟨g', cap', rfl⟩ := ownsRow_succ hown'; obtain ⟨hv1, hv2, hr2, hk2, hb2⟩ := HX.out.2.1.appended (by decide) HX.out.2.2.1 (by omega) (Nat.le_refl h) hown' hgrow; have hc1 := hv1.cell; have hf1 := hv1.frozen)
    have hg' : (W.alloc (.cells #[.int .i64 (x : Int)] 3)).grownBy w1 v.ownBlock := hgrow
    have q := HX.out.1
    have n1' := q.bm.not_row (by decide) HX.out.2.2.1
    have n2' := q.bl.not_row (by decide) HX.out.2.2.1
    have hsz1 := hg'.size
    refine ⟨KeepsNon.of_others hk2, ⟨q.below.trans hb2, ?_, ?_, ?_⟩, _, hv2, ?_⟩
    · have : W.heap.size + 1 ≤ w1.heap.size := by simpa using hsz1
      simp [World.setCell]; omega
    · exact ((q.bm.alloc _).kept hg' n1').kept (grownBy_setCell' w1 h _) (by simp)
    · exact ((q.bl.alloc _).kept hg' n2').kept (grownBy_setCell' w1 h _) (by simp)
    · rw [HX.out.2.2.2]; exact hr2
  case done =>
    rintro D j W hD hj ⟨q, v, hv, hr⟩ hK
    rw [HF.out] at hj
    have hjl : j = F.length := by
      have h1 := hr.1
      rw [flatMap_len (enc := encN) (size := 1) (fun _ => rfl), List.length_take] at h1
      omega
    rw [List.take_of_length_le (by omega)] at hr
    have hr2 := ownsRow_putObj hr (.deferred none) hK rfl
    have hlo' : h + 3 ≤ D := by rw [← HO5.out.2.2]; exact hD
    have hbel := (q.putObj (o' := .deferred none) (by omega) hK rfl).below
    have hc0 := hv.cell
    have HE := Lib.hid (And.intro hr2 (And.intro hbel hjl))
    clear hr hr2 hbel hjl q hv hj
    gi_wp2
    refine ⟨by simp, .inl ⟨_, _, rfl, run_takeDeferred hK, ?_⟩⟩
    refine ⟨_, results_tmp rfl _ _ _, ?_⟩
    rw [HF.out, HH.out, ← HE.out.2.2]
    exact ⟨_, rfl, HE.out.1, HE.out.2.1⟩
end Go.Proofs.Ytdacefmcnjoboaa.LabW
