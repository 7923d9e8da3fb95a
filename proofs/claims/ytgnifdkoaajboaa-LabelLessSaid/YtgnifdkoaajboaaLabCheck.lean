/-
  label.masks, label.all, label.Check: THE WALKS.
-/
import Derived.Test.YtgnifdkoaajboaaLabGet
import Derived.WalkSpells
import Derived.WalkLawsBesides
import Derived.Handy
import Derived.Deep.DeepCutAuto
import Derived.Laws.BitsAllLaws
namespace Go.Proofs.Ytgnifdkoaajboaa.LabW
open Go.RowKit Go.Shelf LabM
/-- The table as a row of cells. -/
def Tb (f : Nat → Nat) (cs : Array Value) : Prop := cs.size = 256 ∧ ∀ i, i < 256 → cs[i]? = some (.int .u8 (f i : Int))
theorem Tb.set {f g : Nat → Nat} {cs : Array Value} (h : Tb f cs) {k x : Nat} (hg : ∀ i, g i = if i = k then x else f i) {v : Value} (hv : v = .int .u8 (x : Int)) : Tb g (cs.setIfInBounds k v) := by
  refine ⟨by simp [h.1], fun i hi => ?_⟩
  rw [hg]
  by_cases e : i = k
  · subst e; rw [Array.getElem?_setIfInBounds_self_of_lt (by rw [h.1]; omega), hv, if_pos rfl]
  · rw [Array.getElem?_setIfInBounds_ne (by omega), if_neg e]; exact h.2 i hi
theorem Tb.congr {f g : Nat → Nat} {cs : Array Value} (h : Tb f cs) (e : ∀ i, f i = g i) : Tb g cs := ⟨h.1, fun i hi => by rw [← e]; exact h.2 i hi⟩
theorem Tb.one {f : Nat → Nat} {cs : Array Value} (h : Tb f cs) : cs.all (·.oneCell') = true := by
  rw [Array.all_eq_true]
  intro i hi
  have := h.2 i (by have := h.1; omega)
  rw [Array.getElem?_eq_getElem hi] at this
  rw [Option.some.inj this]; rfl
theorem info256 : (Try.prog.info? 62).map (·.size) = some 256 := by kernel_rfl
theorem or04 : bits BinOp.or IntKind.u8 0 4 = 4 := u8_or_nat 0 4 (by decide) (by decide)
theorem or42 : bits BinOp.or IntKind.u8 4 2 = 6 := u8_or_nat 4 2 (by decide) (by decide)
theorem or43 : bits BinOp.or IntKind.u8 4 3 = 7 := u8_or_nat 4 3 (by decide) (by decide)
/-- The cells of an array of 256 bytes, before anything is written (a seat whose translation lies in one part names none). -/
def zeroCells256 : Array Value := Array.replicate 256 (.int .u8 0)
theorem zeroValue256 (w : World) : (zeroValue 62).run Try.prog w = .ok (.agg zeroCells256) w := by kernel_rfl
theorem zero256 : Tb (fun _ => 0) zeroCells256 := by
  unfold zeroCells256
  exact ⟨by simp, fun i hi => by simp [hi]⟩
theorem zeroCells256_size : zeroCells256.size = 256 := zero256.1
theorem zeroCells256_ne : ¬ zeroCells256 = #[] := fun h => by
  have := zeroCells256_size
  rw [h] at this
  exact absurd this (by decide)
attribute [local go_sem] zeroValue256
attribute [local simp] zeroCells256_ne zeroCells256_size
/-- The table's last turn, by its world. -/
theorem masks_end {w wr : World} {cs0 cs : Array Value} (hb : Below w.heap.size w wr) (hc0 : wr.heap[w.heap.size]? = some (.cells cs0 62 (0, 0))) (hs0 : cs0.size = 256) (hc : wr.heap[w.heap.size + 1]? = some (.cells cs 62 (0, 0))) (ht : Tb (st3 123) cs) :
    ∃ cs0 ce, Tb maskN ce ∧ cs0.size = 256 ∧ ∃ W2 : World, W2.heap[w.heap.size]? = some (.cells cs0 62 (0, 0)) ∧ W2.heap[w.heap.size + 1]? = some (.cells ce 62 (0, 0)) ∧ Below w.heap.size w W2 ∧ wr.setCell ⟨w.heap.size + 1, 95, none⟩ (.int .u8 (bits BinOp.or IntKind.u8 4 3)) = W2 :=
  ⟨cs0, cs.setIfInBounds 95 (.int .u8 (bits BinOp.or IntKind.u8 4 3)), (ht.set (k := 95) (x := 7) (g := fun i => if i = 95 then 7 else st3 123 i) (fun i => rfl) (by rw [or43]; rfl)).congr st_fin, hs0, _,
    by rw [heap_setCell_other _ _ _ _ (by simp)]; exact hc0, heap_setCell_same wr _ 95 cs _ _ hc, hb.setCell (by simp) _, rfl⟩
set_option maxRecDepth 100000 in
set_option maxHeartbeats 1000000 in
theorem masks_any (w : World) :
    Calls Try.prog 46 #[] w fun e w' => ∃ cs, Tb maskN cs ∧ e = .returned (.agg cs) ∧ Below w.heap.size w w' := by
  go_enter Try.func46, Try.ntmps46
  go_wp2
  go_loopw [2] (fun vc wr => ∃ (k : Nat) (cs0 cs : Array Value), 32 ≤ k ∧ k ≤ 127 ∧ vc = .int .u8 k ∧ Below w.heap.size w wr ∧ wr.heap[w.heap.size]? = some (.cells cs0 62 (0, 0)) ∧ cs0.size = 256 ∧ wr.heap[w.heap.size + 1]? = some (.cells cs 62 (0, 0)) ∧ Tb (st1 k) cs)
    (fun vc _ => 127 - (intOf vc).toNat)
  case atStart =>
    exact ⟨32, _, _, by omega, by omega, rfl, ((Below.refl _ _).alloc (Nat.le_refl _) _).alloc (by simp) _, heap_alloc2_old _ _ _, zero256.1, heap_alloc2_new _ _ _, zero256.congr fun i => (st1_0 i).symm⟩
  case round =>
    obtain ⟨k, cs0, cs, hk0, hk, rfl, hb, hc0, hs0, hc, ht⟩ := hrel
    by_cases hlt : k < 127
    · have hcell : wr.cell? ⟨w.heap.size + 1, k, none⟩ = some (.int .u8 0) := by
        rw [cell_of_row wr _ k cs _ _ hc, ht.2 k (by omega), st1_at]; rfl
      have hfro : wr.frozen? ⟨w.heap.size + 1, k, none⟩ = false := frozen_of_row wr _ k cs _ hc
      have i0 : (0 : Int) ≤ (k : Int) := by omega
      have i1 : (k : Int) ≤ 126 := by omega
      have HH := Lib.hid (And.intro hb (And.intro hc0 (And.intro hs0 (And.intro hc ht))))
      clear hb hc0 hs0 hc ht
      go_wp2
      go_roundw
      case rel =>
        obtain ⟨hb, hc0, hs0, hc, ht⟩ := HH.out
        refine ⟨k + 1, cs0, _, by omega, by omega, by go_num, hb.setCell (by simp) _, ?_, hs0, heap_setCell_same wr _ k cs _ _ hc, ht.set (fun i => st1_step k i hk0) (by rw [or04]; rfl)⟩
        rw [heap_setCell_other _ _ _ _ (by simp)]; exact hc0
      case measure => simp [intOf]; omega
    · obtain rfl : k = 127 := by omega
      go_wp2
      go_loopw [3] (fun vc wr => ∃ (k : Nat) (cs0 cs : Array Value), 48 ≤ k ∧ k ≤ 58 ∧ vc = .int .u8 k ∧ Below w.heap.size w wr ∧ wr.heap[w.heap.size]? = some (.cells cs0 62 (0, 0)) ∧ cs0.size = 256 ∧ wr.heap[w.heap.size + 1]? = some (.cells cs 62 (0, 0)) ∧ Tb (st2 k) cs)
        (fun vc _ => 58 - (intOf vc).toNat)
      case atStart =>
        exact ⟨48, cs0, cs, by omega, by omega, rfl, hb, hc0, hs0, hc, ht.congr fun i => (st2_0 i).symm⟩
      case round =>
        obtain ⟨k, cs0, cs, hk0, hk, rfl, hb, hc0, hs0, hc, ht⟩ := hrel
        by_cases hlt : k < 58
        · have hcell : wr.cell? ⟨w.heap.size + 1, k, none⟩ = some (.int .u8 4) := by
            rw [cell_of_row wr _ k cs _ _ hc, ht.2 k (by omega), st2_at k hk0 hlt]; rfl
          have hfro : wr.frozen? ⟨w.heap.size + 1, k, none⟩ = false := frozen_of_row wr _ k cs _ hc
          have i0 : (0 : Int) ≤ (k : Int) := by omega
          have i1 : (k : Int) ≤ 57 := by omega
          have HH := Lib.hid (And.intro hb (And.intro hc0 (And.intro hs0 (And.intro hc ht))))
          clear hb hc0 hs0 hc ht
          go_wp2
          go_roundw
          case rel =>
            obtain ⟨hb, hc0, hs0, hc, ht⟩ := HH.out
            refine ⟨k + 1, cs0, _, by omega, by omega, by go_num, hb.setCell (by simp) _, ?_, hs0, heap_setCell_same wr _ k cs _ _ hc, ht.set (fun i => st2_step k i hk0) (by rw [or42]; rfl)⟩
            rw [heap_setCell_other _ _ _ _ (by simp)]; exact hc0
          case measure => simp [intOf]; omega
        · obtain rfl : k = 58 := by omega
          go_wp2
          go_loopw [4] (fun vc wr => ∃ (k : Nat) (cs0 cs : Array Value), 97 ≤ k ∧ k ≤ 123 ∧ vc = .int .u8 k ∧ Below w.heap.size w wr ∧ wr.heap[w.heap.size]? = some (.cells cs0 62 (0, 0)) ∧ cs0.size = 256 ∧ wr.heap[w.heap.size + 1]? = some (.cells cs 62 (0, 0)) ∧ Tb (st3 k) cs)
            (fun vc _ => 123 - (intOf vc).toNat)
          case atStart =>
            exact ⟨97, cs0, cs, by omega, by omega, rfl, hb, hc0, hs0, hc, ht.congr fun i => (st3_0 i).symm⟩
          case round =>
            obtain ⟨k, cs0, cs, hk0, hk, rfl, hb, hc0, hs0, hc, ht⟩ := hrel
            by_cases hlt : k < 123
            · have hcell : wr.cell? ⟨w.heap.size + 1, k, none⟩ = some (.int .u8 4) := by
                rw [cell_of_row wr _ k cs _ _ hc, ht.2 k (by omega), st3_at k hk0 hlt]; rfl
              have hfro : wr.frozen? ⟨w.heap.size + 1, k, none⟩ = false := frozen_of_row wr _ k cs _ hc
              have i0 : (0 : Int) ≤ (k : Int) := by omega
              have i1 : (k : Int) ≤ 122 := by omega
              have HH := Lib.hid (And.intro hb (And.intro hc0 (And.intro hs0 (And.intro hc ht))))
              clear hb hc0 hs0 hc ht
              go_wp2
              go_roundw
              case rel =>
                obtain ⟨hb, hc0, hs0, hc, ht⟩ := HH.out
                refine ⟨k + 1, cs0, _, by omega, by omega, by go_num, hb.setCell (by simp) _, ?_, hs0, heap_setCell_same wr _ k cs _ _ hc, ht.set (fun i => st3_step k i hk0) (by rw [or43]; rfl)⟩
                rw [heap_setCell_other _ _ _ _ (by simp)]; exact hc0
              case measure => simp [intOf]; omega
            · obtain rfl : k = 123 := by omega
              obtain ⟨cs0, ce, ht2, hs0, W2, hd0, hd, hb2, hW2⟩ := masks_end hb hc0 hs0 hc ht
              have hcell : wr.cell? ⟨w.heap.size + 1, 95, none⟩ = some (.int .u8 4) := by
                rw [cell_of_row wr _ 95 cs _ _ hc, ht.2 95 (by omega), show st3 123 95 = 4 from by decide]; rfl
              have hfro : wr.frozen? ⟨w.heap.size + 1, 95, none⟩ = false := frozen_of_row wr _ 95 cs _ hc
              have hload : (Try.prog.info? 62).map (·.size) = some ce.size := by rw [ht2.1]; exact info256
              have hone : ce.all (·.oneCell') = true := ht2.one
              have hres : (W2.setRow w.heap.size ce).heap[w.heap.size]? = some (.cells ce 62 (0, 0)) := setRow_heap W2 _ _ ce _ _ hd0
              have HB := Lib.hid (And.intro (below_setRow hb2 (Nat.le_refl _) ce) ht2)
              have HSZ := Lib.hid (hs0.trans ht2.1.symm)
              have HR := Lib.hid hres
              have HD := Lib.hid (And.intro hd hd0)
              clear hb hc0 hs0 hc ht hb2 ht2 hres hd hd0
              go_upto_region 15 with (fail)
              refine wp_region_lit ?_
              refine wpList_load_row rfl 62 _ rfl (w.heap.size + 1) rfl 62 ce (0, 0) _ HD.out.1 Try.underlying62 rfl hload ?_
              refine wpList_store_row rfl 62 _ _ rfl w.heap.size ce rfl rfl 62 cs0 HD.out.2 hload HSZ.out hone ?_
              have HLD := Lib.hid hload
              clear hload hone
              go_wp2
              exact bodyPost_ret (v := .agg ce) (results_cell_row (Try.results46) _ _ w.heap.size 62 ce (0, 0) _ rfl HR.out Try.underlying62 rfl HLD.out) rfl ⟨ce, HB.out.2, rfl, HB.out.1⟩
/-- A byte's mask. -/
theorem take_snocU (s : ByteArray) (k : Nat) (h : k < s.size) : s.data.toList.take (k + 1) = s.data.toList.take k ++ [s[k]] := by
  have hl : k < s.data.toList.length := by simpa using h
  rw [List.take_add_one, List.getElem?_eq_getElem hl]
  simp [ByteArray.getElem_eq_getElem_data]
theorem toList_data (s : ByteArray) : s.toList = s.data.toList := by
  exact ByteArray.toList_eq s
theorem mask_lt (c : Nat) : maskN c < 8 := by unfold maskN; repeat' split
                                              all_goals omega
set_option maxRecDepth 100000 in
set_option maxHeartbeats 1000000 in
theorem lall_any (s : ByteArray) (m : Nat) (w : World) (hs : s.size ≤ maxLen) (hm : m < 256) :
    Calls Try.prog 35 #[.string s, .int .u8 m] w fun e w' => e = .returned (.bool (allM s.data.toList m)) ∧ Below w.heap.size w w' := by
  unfold maxLen at hs
  go_enter Try.func35, Try.ntmps35
  go_wp2_with fail
  refine (masks_any _).mono ?_
  rintro e w1 ⟨cs, ht, rfl, hb1⟩
  have hinf : (Try.prog.info? 62).map (·.size) = some cs.size := by rw [ht.1]; exact info256
  go_wp2_with (refine wpList_store_fresh rfl 62 _ _ rfl cs rfl rfl 62 _ hinf (zero256.1.trans ht.1.symm) ht.one ?_; intro w2 hb2 hc2 hz2; clear hinf)
  go_loop [10] (fun v10 => ∃ k : Nat, k ≤ s.size ∧ v10 = .int .i64 k ∧ ((s.data.toList.take k).all fun c => maskN c.toNat &&& m != 0) = true) (fun v10 => s.size - (intOf v10).toNat)
  case atStart => exact ⟨0, Nat.zero_le _, rfl, rfl⟩
  case round =>
    obtain ⟨k, hk, rfl, hall⟩ := hrel
    by_cases hlt : k < s.size
    · have hsn := take_snocU s k hlt
      have hcell : w2.cell? ⟨w1.heap.size, s[k].toNat, none⟩ = some (.int .u8 (maskN s[k].toNat : Int)) := by
        rw [cell_of_row w2 _ _ cs _ _ hc2, ht.2 _ s[k].toNat_lt]
      have hx := s[k].toNat_lt
      have hand := u8_and_nat (maskN s[k].toNat) m (by have := mask_lt s[k].toNat; omega) hm
      obtain ⟨y, hy⟩ : ∃ y, maskN s[k].toNat = y := ⟨_, rfl⟩
      have HS := Lib.hid (And.intro hsn (And.intro hall hy))
      rw [hy] at hcell hand
      clear hsn hall hy
      go_wp2
      · have hz : ((y &&& m : Nat) : Int) == 0 := by assumption
        go_ret
        refine ⟨?_, later hb1 hb2⟩
        have e : allM s.data.toList m = false := by
          have hmem : s[k] ∈ s.data.toList := by
            rw [ByteArray.getElem_eq_getElem_data]; simp
          unfold allM
          rw [List.all_eq_false.2 ⟨_, hmem, by rw [HS.out.2.2]; simp at hz ⊢; omega⟩]
          simp
        rw [e]; rfl
      · have hz : (((y &&& m : Nat) : Int) == 0) = false := by assumption
        go_round
        case rel =>
          refine ⟨k + 1, by omega, by go_num, ?_⟩
          rw [HS.out.1, List.all_append, HS.out.2.1, Bool.true_and, List.all_cons, List.all_nil, Bool.and_true, HS.out.2.2]
          simp at hz ⊢; omega
        case measure => simp [intOf]; omega
    · obtain rfl : k = s.size := by omega
      rw [List.take_of_length_le (by simp)] at hall
      have HA := Lib.hid hall
      clear hall
      go_wp2
      · have he : s.toList = [] := by assumption
        go_ret
        refine ⟨?_, later hb1 hb2⟩
        have e : allM s.data.toList m = false := by
          rw [← toList_data, he]; rfl
        rw [e]; rfl
      · have he : ¬ s.toList = [] := by assumption
        go_ret
        refine ⟨?_, later hb1 hb2⟩
        have e : allM s.data.toList m = (!s.toList.isEmpty && decide ((s.size : Int) ≤ 48)) := by
          unfold allM
          rw [HA.out, Bool.true_and]
          have h1 : s.data.toList.isEmpty = false := by
            rw [← toList_data]
            cases h : s.toList with
            | nil => exact absurd h he
            | cons => rfl
          have h2 : s.data.toList.length = s.size := by simp
          rw [toList_data, h1, h2, Bool.not_false, Bool.true_and, Bool.true_and, decide_eq_decide]
          omega
        rw [e]; rfl
end Go.Proofs.Ytgnifdkoaajboaa.LabW
