/-
  label.masks, label.all, label.Check: THE WALKS.
  label.Check: THE WALK.
  SMALL LAWS OF TEXTS AS LISTS.
-/
import Derived.Test.YtdjgndnllaingaaJ05
import Derived.WalkSpells
import Derived.WalkLawsBesides
import Derived.Handy
import Derived.Deep.DeepCutAuto
import Derived.Laws.BitsAllLaws
import Derived.WalkMore
import Derived.Deep.LoopGhost
import Derived.Lib.Hide
/-
  label.masks, label.all, label.Check: THE WALKS.
-/
namespace Go.Proofs.Ytdjgndnllaingaa.LabW
open Go.RowKit Go.Shelf LabM
/-- The table as a row of cells. -/
def Tb (f : Nat → Nat) (cs : Array Value) : Prop := cs.size = 256 ∧ ∀ i, i < 256 → cs[i]? = some (.int .u8 (f i : Int))
theorem Tb.set {f g : Nat → Nat} {cs : Array Value} (h : Tb f cs) {k x : Nat} (hg : ∀ i, g i = if i = k then x else f i) {v : Value} (hv : v = .int .u8 (x : Int)) : Tb g (cs.setIfInBounds k v) := by
  refine ⟨by simp [h.1], fun i hi => ?_⟩
  rw [hg]
  by_cases e : i = k
  · subst e; rw [Array.getElem?_setIfInBounds_self_of_lt (by rw [h.1]; omega), hv, if_pos rfl]
  · rw [Array.getElem?_setIfInBounds_ne (by omega), if_neg e]; exact h.2 i hi
theorem Tb.congr {f g : Nat → Nat} {cs : Array Value} (h : Tb f cs) (e : ∀ i, f i = g i) : Tb g cs := ⟨h.1, fun i hi => by rw [← e]; exact h.2 i hi⟩
theorem Tb.one {f : Nat → Nat} {cs : Array Value} (h : Tb f cs) : cs.all (·.oneCell') = true := by
  rw [Array.all_eq_true]
  intro i hi
  have := h.2 i (by have := h.1; omega)
  rw [Array.getElem?_eq_getElem hi] at this
  rw [Option.some.inj this]; rfl
theorem info256 : (Try.prog.info? 128).map (·.size) = some 256 := by kernel_rfl
theorem or04 : bits BinOp.or IntKind.u8 0 4 = 4 := u8_or_nat 0 4 (by decide) (by decide)
theorem or42 : bits BinOp.or IntKind.u8 4 2 = 6 := u8_or_nat 4 2 (by decide) (by decide)
theorem or43 : bits BinOp.or IntKind.u8 4 3 = 7 := u8_or_nat 4 3 (by decide) (by decide)
/-- The cells of an array of 256 bytes, before anything is written (a seat whose translation lies in one part names none). -/
def zeroCells256 : Array Value := Array.replicate 256 (.int .u8 0)
theorem zeroValue256 (w : World) : (zeroValue 128).run Try.prog w = .ok (.agg zeroCells256) w := by kernel_rfl
theorem zero256 : Tb (fun _ => 0) zeroCells256 := by
  unfold zeroCells256
  exact ⟨by simp, fun i hi => by simp [hi]⟩
theorem zeroCells256_size : zeroCells256.size = 256 := zero256.1
theorem zeroCells256_ne : ¬ zeroCells256 = #[] := fun h => by
  have := zeroCells256_size
  rw [h] at this
  exact absurd this (by decide)
attribute [local go_sem] zeroValue256
attribute [local simp] zeroCells256_ne zeroCells256_size
/-- The table's last turn, by its world. -/
theorem masks_end {w wr : World} {cs0 cs : Array Value} (hb : Below w.heap.size w wr) (hc0 : wr.heap[w.heap.size]? = some (.cells cs0 128 (0, 0))) (hs0 : cs0.size = 256) (hc : wr.heap[w.heap.size + 1]? = some (.cells cs 128 (0, 0))) (ht : Tb (st3 123) cs) :
    ∃ cs0 ce, Tb maskN ce ∧ cs0.size = 256 ∧ ∃ W2 : World, W2.heap[w.heap.size]? = some (.cells cs0 128 (0, 0)) ∧ W2.heap[w.heap.size + 1]? = some (.cells ce 128 (0, 0)) ∧ Below w.heap.size w W2 ∧ wr.setCell ⟨w.heap.size + 1, 95, none⟩ (.int .u8 (bits BinOp.or IntKind.u8 4 3)) = W2 :=
  ⟨cs0, cs.setIfInBounds 95 (.int .u8 (bits BinOp.or IntKind.u8 4 3)), (ht.set (k := 95) (x := 7) (g := fun i => if i = 95 then 7 else st3 123 i) (fun i => rfl) (by rw [or43]; rfl)).congr st_fin, hs0, _,
    by rw [heap_setCell_other _ _ _ _ (by simp)]; exact hc0, heap_setCell_same wr _ 95 cs _ _ hc, hb.setCell (by simp) _, rfl⟩
set_option maxRecDepth 100000 in
set_option maxHeartbeats 1000000 in
theorem masks_any (w : World) :
    Calls Try.prog 79 #[] w fun e w' => ∃ cs, Tb maskN cs ∧ e = .returned (.agg cs) ∧ Below w.heap.size w w' := by
  go_enter Try.func79, Try.ntmps79
  go_wp2
  go_loopw [2] (fun vc wr => ∃ (k : Nat) (cs0 cs : Array Value), 32 ≤ k ∧ k ≤ 127 ∧ vc = .int .u8 k ∧ Below w.heap.size w wr ∧ wr.heap[w.heap.size]? = some (.cells cs0 128 (0, 0)) ∧ cs0.size = 256 ∧ wr.heap[w.heap.size + 1]? = some (.cells cs 128 (0, 0)) ∧ Tb (st1 k) cs)
    (fun vc _ => 127 - (intOf vc).toNat)
  case atStart =>
    exact ⟨32, _, _, by omega, by omega, rfl, ((Below.refl _ _).alloc (Nat.le_refl _) _).alloc (by simp) _, heap_alloc2_old _ _ _, zero256.1, heap_alloc2_new _ _ _, zero256.congr fun i => (st1_0 i).symm⟩
  case round =>
    obtain ⟨k, cs0, cs, hk0, hk, rfl, hb, hc0, hs0, hc, ht⟩ := hrel
    by_cases hlt : k < 127
    · have hcell : wr.cell? ⟨w.heap.size + 1, k, none⟩ = some (.int .u8 0) := by
        rw [cell_of_row wr _ k cs _ _ hc, ht.2 k (by omega), st1_at]; rfl
      have hfro : wr.frozen? ⟨w.heap.size + 1, k, none⟩ = false := frozen_of_row wr _ k cs _ hc
      have i0 : (0 : Int) ≤ (k : Int) := by omega
      have i1 : (k : Int) ≤ 126 := by omega
      have HH := Lib.hid (And.intro hb (And.intro hc0 (And.intro hs0 (And.intro hc ht))))
      clear hb hc0 hs0 hc ht
      go_wp2
      go_roundw
      case rel =>
        obtain ⟨hb, hc0, hs0, hc, ht⟩ := HH.out
        refine ⟨k + 1, cs0, _, by omega, by omega, by go_num, hb.setCell (by simp) _, ?_, hs0, heap_setCell_same wr _ k cs _ _ hc, ht.set (fun i => st1_step k i hk0) (by rw [or04]; rfl)⟩
        rw [heap_setCell_other _ _ _ _ (by simp)]; exact hc0
      case measure => simp [intOf]; omega
    · obtain rfl : k = 127 := by omega
      go_wp2
      go_loopw [3] (fun vc wr => ∃ (k : Nat) (cs0 cs : Array Value), 48 ≤ k ∧ k ≤ 58 ∧ vc = .int .u8 k ∧ Below w.heap.size w wr ∧ wr.heap[w.heap.size]? = some (.cells cs0 128 (0, 0)) ∧ cs0.size = 256 ∧ wr.heap[w.heap.size + 1]? = some (.cells cs 128 (0, 0)) ∧ Tb (st2 k) cs)
        (fun vc _ => 58 - (intOf vc).toNat)
      case atStart =>
        exact ⟨48, cs0, cs, by omega, by omega, rfl, hb, hc0, hs0, hc, ht.congr fun i => (st2_0 i).symm⟩
      case round =>
        obtain ⟨k, cs0, cs, hk0, hk, rfl, hb, hc0, hs0, hc, ht⟩ := hrel
        by_cases hlt : k < 58
        · have hcell : wr.cell? ⟨w.heap.size + 1, k, none⟩ = some (.int .u8 4) := by
            rw [cell_of_row wr _ k cs _ _ hc, ht.2 k (by omega), st2_at k hk0 hlt]; rfl
          have hfro : wr.frozen? ⟨w.heap.size + 1, k, none⟩ = false := frozen_of_row wr _ k cs _ hc
          have i0 : (0 : Int) ≤ (k : Int) := by omega
          have i1 : (k : Int) ≤ 57 := by omega
          have HH := Lib.hid (And.intro hb (And.intro hc0 (And.intro hs0 (And.intro hc ht))))
          clear hb hc0 hs0 hc ht
          go_wp2
          go_roundw
          case rel =>
            obtain ⟨hb, hc0, hs0, hc, ht⟩ := HH.out
            refine ⟨k + 1, cs0, _, by omega, by omega, by go_num, hb.setCell (by simp) _, ?_, hs0, heap_setCell_same wr _ k cs _ _ hc, ht.set (fun i => st2_step k i hk0) (by rw [or42]; rfl)⟩
            rw [heap_setCell_other _ _ _ _ (by simp)]; exact hc0
          case measure => simp [intOf]; omega
        · obtain rfl : k = 58 := by omega
          go_wp2
          go_loopw [4] (fun vc wr => ∃ (k : Nat) (cs0 cs : Array Value), 97 ≤ k ∧ k ≤ 123 ∧ vc = .int .u8 k ∧ Below w.heap.size w wr ∧ wr.heap[w.heap.size]? = some (.cells cs0 128 (0, 0)) ∧ cs0.size = 256 ∧ wr.heap[w.heap.size + 1]? = some (.cells cs 128 (0, 0)) ∧ Tb (st3 k) cs)
            (fun vc _ => 123 - (intOf vc).toNat)
          case atStart =>
            exact ⟨97, cs0, cs, by omega, by omega, rfl, hb, hc0, hs0, hc, ht.congr fun i => (st3_0 i).symm⟩
          case round =>
            obtain ⟨k, cs0, cs, hk0, hk, rfl, hb, hc0, hs0, hc, ht⟩ := hrel
            by_cases hlt : k < 123
            · have hcell : wr.cell? ⟨w.heap.size + 1, k, none⟩ = some (.int .u8 4) := by
                rw [cell_of_row wr _ k cs _ _ hc, ht.2 k (by omega), st3_at k hk0 hlt]; rfl
              have hfro : wr.frozen? ⟨w.heap.size + 1, k, none⟩ = false := frozen_of_row wr _ k cs _ hc
              have i0 : (0 : Int) ≤ (k : Int) := by omega
              have i1 : (k : Int) ≤ 122 := by omega
              have HH := Lib.hid (And.intro hb (And.intro hc0 (And.intro hs0 (And.intro hc ht))))
              clear hb hc0 hs0 hc ht
              go_wp2
              go_roundw
              case rel =>
                obtain ⟨hb, hc0, hs0, hc, ht⟩ := HH.out
                refine ⟨k + 1, cs0, _, by omega, by omega, by go_num, hb.setCell (by simp) _, ?_, hs0, heap_setCell_same wr _ k cs _ _ hc, ht.set (fun i => st3_step k i hk0) (by rw [or43]; rfl)⟩
                rw [heap_setCell_other _ _ _ _ (by simp)]; exact hc0
              case measure => simp [intOf]; omega
            · obtain rfl : k = 123 := by omega
              obtain ⟨cs0, ce, ht2, hs0, W2, hd0, hd, hb2, hW2⟩ := masks_end hb hc0 hs0 hc ht
              have hcell : wr.cell? ⟨w.heap.size + 1, 95, none⟩ = some (.int .u8 4) := by
                rw [cell_of_row wr _ 95 cs _ _ hc, ht.2 95 (by omega), show st3 123 95 = 4 from by decide]; rfl
              have hfro : wr.frozen? ⟨w.heap.size + 1, 95, none⟩ = false := frozen_of_row wr _ 95 cs _ hc
              have hload : (Try.prog.info? 128).map (·.size) = some ce.size := by rw [ht2.1]; exact info256
              have hone : ce.all (·.oneCell') = true := ht2.one
              have hres : (W2.setRow w.heap.size ce).heap[w.heap.size]? = some (.cells ce 128 (0, 0)) := setRow_heap W2 _ _ ce _ _ hd0
              have HB := Lib.hid (And.intro (below_setRow hb2 (Nat.le_refl _) ce) ht2)
              have HSZ := Lib.hid (hs0.trans ht2.1.symm)
              have HR := Lib.hid hres
              have HD := Lib.hid (And.intro hd hd0)
              clear hb hc0 hs0 hc ht hb2 ht2 hres hd hd0
              go_upto_region 15 with (fail)
              refine wp_region_lit ?_
              refine wpList_load_row rfl 128 _ rfl (w.heap.size + 1) rfl 128 ce (0, 0) _ HD.out.1 Try.underlying128 rfl hload ?_
              refine wpList_store_row rfl 128 _ _ rfl w.heap.size ce rfl rfl 128 cs0 HD.out.2 hload HSZ.out hone ?_
              have HLD := Lib.hid hload
              clear hload hone
              go_wp2
              exact bodyPost_ret (v := .agg ce) (results_cell_row (Try.results79) _ _ w.heap.size 128 ce (0, 0) _ rfl HR.out Try.underlying128 rfl HLD.out) rfl ⟨ce, HB.out.2, rfl, HB.out.1⟩
/-- A byte's mask. -/
theorem take_snocU (s : ByteArray) (k : Nat) (h : k < s.size) : s.data.toList.take (k + 1) = s.data.toList.take k ++ [s[k]] := by
  have hl : k < s.data.toList.length := by simpa using h
  rw [List.take_add_one, List.getElem?_eq_getElem hl]
  simp [ByteArray.getElem_eq_getElem_data]
theorem toList_data (s : ByteArray) : s.toList = s.data.toList := by
  exact ByteArray.toList_eq s
theorem mask_lt (c : Nat) : maskN c < 8 := by unfold maskN; repeat' split
                                              all_goals omega
set_option maxRecDepth 100000 in
set_option maxHeartbeats 1000000 in
theorem lall_any (s : ByteArray) (m : Nat) (w : World) (hs : s.size ≤ maxLen) (hm : m < 256) :
    Calls Try.prog 68 #[.string s, .int .u8 m] w fun e w' => e = .returned (.bool (allM s.data.toList m)) ∧ Below w.heap.size w w' := by
  unfold maxLen at hs
  go_enter Try.func68, Try.ntmps68
  go_wp2_with fail
  refine (masks_any _).mono ?_
  rintro e w1 ⟨cs, ht, rfl, hb1⟩
  have hinf : (Try.prog.info? 128).map (·.size) = some cs.size := by rw [ht.1]; exact info256
  go_wp2_with (refine wpList_store_fresh rfl 128 _ _ rfl cs rfl rfl 128 _ hinf (zero256.1.trans ht.1.symm) ht.one ?_; intro w2 hb2 hc2 hz2; clear hinf)
  go_loop [10] (fun v10 => ∃ k : Nat, k ≤ s.size ∧ v10 = .int .i64 k ∧ ((s.data.toList.take k).all fun c => maskN c.toNat &&& m != 0) = true) (fun v10 => s.size - (intOf v10).toNat)
  case atStart => exact ⟨0, Nat.zero_le _, rfl, rfl⟩
  case round =>
    obtain ⟨k, hk, rfl, hall⟩ := hrel
    by_cases hlt : k < s.size
    · have hsn := take_snocU s k hlt
      have hcell : w2.cell? ⟨w1.heap.size, s[k].toNat, none⟩ = some (.int .u8 (maskN s[k].toNat : Int)) := by
        rw [cell_of_row w2 _ _ cs _ _ hc2, ht.2 _ s[k].toNat_lt]
      have hx := s[k].toNat_lt
      have hand := u8_and_nat (maskN s[k].toNat) m (by have := mask_lt s[k].toNat; omega) hm
      obtain ⟨y, hy⟩ : ∃ y, maskN s[k].toNat = y := ⟨_, rfl⟩
      have HS := Lib.hid (And.intro hsn (And.intro hall hy))
      rw [hy] at hcell hand
      clear hsn hall hy
      go_wp2
      · have hz : ((y &&& m : Nat) : Int) == 0 := by assumption
        go_ret
        refine ⟨?_, later hb1 hb2⟩
        have e : allM s.data.toList m = false := by
          have hmem : s[k] ∈ s.data.toList := by
            rw [ByteArray.getElem_eq_getElem_data]; simp
          unfold allM
          rw [List.all_eq_false.2 ⟨_, hmem, by rw [HS.out.2.2]; simp at hz ⊢; omega⟩]
          simp
        rw [e]; rfl
      · have hz : (((y &&& m : Nat) : Int) == 0) = false := by assumption
        go_round
        case rel =>
          refine ⟨k + 1, by omega, by go_num, ?_⟩
          rw [HS.out.1, List.all_append, HS.out.2.1, Bool.true_and, List.all_cons, List.all_nil, Bool.and_true, HS.out.2.2]
          simp at hz ⊢; omega
        case measure => simp [intOf]; omega
    · obtain rfl : k = s.size := by omega
      rw [List.take_of_length_le (by simp)] at hall
      have HA := Lib.hid hall
      clear hall
      go_wp2
      · have he : s.toList = [] := by assumption
        go_ret
        refine ⟨?_, later hb1 hb2⟩
        have e : allM s.data.toList m = false := by
          rw [← toList_data, he]; rfl
        rw [e]; rfl
      · have he : ¬ s.toList = [] := by assumption
        go_ret
        refine ⟨?_, later hb1 hb2⟩
        have e : allM s.data.toList m = (!s.toList.isEmpty && decide ((s.size : Int) ≤ 48)) := by
          unfold allM
          rw [HA.out, Bool.true_and]
          have h1 : s.data.toList.isEmpty = false := by
            rw [← toList_data]
            cases h : s.toList with
            | nil => exact absurd h he
            | cons => rfl
          have h2 : s.data.toList.length = s.size := by simp
          rw [toList_data, h1, h2, Bool.not_false, Bool.true_and, Bool.true_and, decide_eq_decide]
          omega
        rw [e]; rfl
end Go.Proofs.Ytdjgndnllaingaa.LabW
/-
  label.Check: THE WALK.
-/
namespace Go.Proofs.Ytdjgndnllaingaa.LabW
open Go.RowKit Go.Shelf LabM
theorem bytesLess_ltB (a b : Txt) : Op.bytesLess a b = ltB a b := by
  induction a generalizing b with
  | nil => cases b <;> rfl
  | cons x a ih =>
    cases b with
    | nil => rfl
    | cons y b =>
      unfold Op.bytesLess ltB
      rw [ih]
      by_cases h : x = y
      · subst h; simp
      · rw [if_neg h]
        have : (x == y) = false := by simpa using h
        rw [this, Bool.false_and, Bool.or_false, decide_eq_decide]
        exact UInt8.lt_iff_toNat_lt
theorem gt_yes {a b : ByteArray} (h : Op.bytesLess a.toList b.toList = false ∧ ¬ a.toList = b.toList) : ltB b.data.toList a.data.toList = true := by
  rw [← ltB_tri, ← toList_data, ← toList_data, ← bytesLess_ltB, h.1]
  simpa using h.2
theorem gt_no {a b : ByteArray} (h : ¬ (Op.bytesLess a.toList b.toList = false ∧ ¬ a.toList = b.toList)) : ltB b.data.toList a.data.toList = false := by
  cases e : ltB b.data.toList a.data.toList with
  | false => rfl
  | true =>
    rw [← ltB_tri, ← toList_data, ← toList_data, ← bytesLess_ltB] at e
    simp at e
    exact absurd e h
theorem allM_pos {s : ByteArray} {m : Nat} (h : allM s.data.toList m = true) : 1 ≤ s.size := by
  unfold allM at h
  simp only [Bool.and_eq_true] at h
  have h1 := h.1.2
  have h2 : s.data.toList.length = s.size := by simp
  cases e : s.data.toList with
  | nil => rw [e] at h1; cases h1
  | cons a t => rw [e] at h2; simp at h2; omega
theorem name_split (s : Txt) : nameB s = (allM s 2 && allM (s.take 1) 1) := (name_of_masks s).symm
theorem chk_no {l : List Lab} (h : chkL [] l = false) : checkB l = false := by unfold checkB; rw [h]; rfl
set_option maxHeartbeats 2000000 in
theorem check_any (A : Option Addr) (n c : Nat) (l : List Lab) (w : World) (hl : Comes w 2 encL okL A n c l) :
    Calls Try.prog 50 #[.slice A n c] w fun e w' => e = .returned (.int .i64 (errN (checkB l) 2)) ∧ Below w.heap.size w w' := by
  have HL := Lib.hid hl
  have hcap : c ≤ 9223372036854775807 := hl.cap
  have hle := hl.le
  clear hl
  go_enter Try.func50, Try.ntmps50
  go_wp2_with fail
  go_step3
  go_wp2
  go_step3
  go_wp2
  go_loopw [3, 8] (fun v3 v8 wr => ∃ (k : Nat) (last : ByteArray), k ≤ n ∧ v8 = .int .i64 k ∧ v3 = .string last ∧ last.size ≤ maxLen ∧ chkL [] l = chkL last.data.toList (l.drop k) ∧ Below w.heap.size w wr) (fun _ v8 _ => n - (intOf v8).toNat)
  case atStart => exact ⟨0, ⟨#[]⟩, Nat.zero_le _, rfl, rfl, by decide, rfl, Below.refl _ _⟩
  case round =>
    obtain ⟨k, last, hk, rfl, rfl, hls, hg, ho⟩ := hrel
    have hln := HL.out.len
    by_cases hlt : k < n
    · have hkl : k < l.length := by omega
      obtain ⟨b, o, rfl, hcs⟩ := lab_cells HL.out.lies hkl
      obtain ⟨hc0, hc1⟩ := hcs _ ho
      have hok := HL.out.ok _ (List.getElem_mem hkl)
      rw [chkL_at l _ k hkl] at hg
      generalize l[k] = x at *
      obtain ⟨x1, x2⟩ := x
      obtain ⟨hx1, hx2⟩ := hok
      simp only [] at hc0 hc1 hg hx1 hx2
      have HO := Lib.hid ho
      have HG := Lib.hid hg
      clear ho hln hcs hg
      go_wp2_with fail
      · have hasm : Op.bytesLess x1.toList last.toList = false ∧ ¬ x1.toList = last.toList := by assumption
        have hgt := gt_yes hasm
        have hne : (x1.toList == last.toList) = false := by simpa using hasm.2
        clear hasm
        have hbelow0 : Below w.heap.size w (wr.alloc (.cells #[.string x1, .string x2] 60)) := HO.out.alloc HO.out.size _
        refine (lall_any x1 2 _ hx1 (by decide)).mono ?_
        rintro e w1 ⟨rfl, hb1⟩
        have hbox : w1.heap[wr.heap.size]? = some (.cells #[.string x1, .string x2] 60 (0, 0)) := (hb1.block _ (by simp)).trans (heap_alloc_new wr _)
        have hb2 : Below w.heap.size w w1 := hbelow0.trans (hb1.mono (by have := HO.out.size; simp; omega))
        cases hN2 : allM x1.data.toList 2
        · have hno : checkB l = false := chk_no (by rw [HG.out, name_split, hN2]; simp)
          have HB := Lib.hid (And.intro hb2 hno)
          clear hbox hb1 hb2 hbelow0 hN2 hno
          go_wp2_with fail
          rw [Exit.noGoto_ret]
          go_ret
          exact ⟨by rw [HB.out.2]; rfl, HB.out.1⟩
        · have hpos := allM_pos hN2
          have hsl := slice_to (P := Try.prog) Try.underlying9 x1 1 1 rfl hpos
          have hy0 : w1.cell? ⟨wr.heap.size, 0, none⟩ = some (.string x1) := by rw [cell_of_row w1 _ _ _ _ _ hbox]; rfl
          have hxe : (x1.extract 0 1).data.toList = x1.data.toList.take 1 := by simp
          obtain ⟨y, hy⟩ : ∃ y, x1.extract 0 1 = y := ⟨_, rfl⟩
          rw [hy] at hsl hxe
          have hys : y.size ≤ maxLen := by rw [← hy]; have := hx1; simp; omega
          have HBX := Lib.hid (And.intro hbox (And.intro hb2 (And.intro hxe hN2)))
          clear hbox hb1 hb2 hbelow0 hN2 hy hxe
          go_wp2_with fail
          refine (lall_any y 1 _ hys (by decide)).mono ?_
          rintro e w2 ⟨rfl, hb3⟩
          have hbox := (hb3.block _ (Array.getElem?_eq_some_iff.1 HBX.out.1).1).trans HBX.out.1
          have hb4 := later HBX.out.2.1 hb3
          have hz1 : w2.cell? ⟨wr.heap.size, 1, none⟩ = some (.string x2) := by rw [cell_of_row w2 _ _ _ _ _ hbox]; rfl
          cases hN1 : allM y.data.toList 1
          · have hno : checkB l = false := chk_no (by rw [HG.out, name_split, ← HBX.out.2.2.1, hN1]; simp)
            have HB := Lib.hid (And.intro hb4 hno)
            clear hbox hb3 hb4 hN1 hno hsl hy0
            go_wp2_with fail
            rw [Exit.noGoto_ret]
            go_ret
            exact ⟨by rw [HB.out.2]; rfl, HB.out.1⟩
          · have HBY := Lib.hid (And.intro hbox (And.intro hb4 hN1))
            clear hbox hb3 hb4 hN1 hsl hy0
            go_wp2_with fail
            refine (lall_any x2 4 _ hx2 (by decide)).mono ?_
            rintro e w3 ⟨rfl, hb5⟩
            have hbox := (hb5.block _ (Array.getElem?_eq_some_iff.1 HBY.out.1).1).trans HBY.out.1
            have hb6 := later HBY.out.2.1 hb5
            have hz0 : w3.cell? ⟨wr.heap.size, 0, none⟩ = some (.string x1) := by rw [cell_of_row w3 _ _ _ _ _ hbox]; rfl
            cases hV : allM x2.data.toList 4
            · have hno : checkB l = false := chk_no (by rw [HG.out, ← value_of_masks x2.data.toList, hV]; simp)
              have HB := Lib.hid (And.intro hb6 hno)
              clear hbox hb5 hb6 hV hno hz1 hz0
              go_wp2_with fail
              rw [Exit.noGoto_ret]
              go_ret
              exact ⟨by rw [HB.out.2]; rfl, HB.out.1⟩
            · have hyes : chkL [] l = chkL x1.data.toList (l.drop (k + 1)) := by
                rw [HG.out, name_split, HBX.out.2.2.2, ← HBX.out.2.2.1, HBY.out.2.2, ← value_of_masks x2.data.toList, hV, hgt]; rfl
              have HB := Lib.hid (And.intro hb6 hyes)
              clear hbox hb5 hb6 hV hyes hz1
              go_wp2_with fail
              go_roundw
              case rel => exact ⟨k + 1, x1, by omega, by go_num, rfl, hx1, HB.out.2, HB.out.1⟩
              case measure => simp [intOf]; omega
      · have hgt := gt_no (by assumption)
        have hno : checkB l = false := chk_no (by rw [HG.out, hgt]; simp)
        rw [Exit.noGoto_ret]
        go_ret
        exact ⟨by rw [hno]; rfl, HO.out.alloc HO.out.size _⟩
    · obtain rfl : k = n := by omega
      rw [chkL_end l _ k (by omega)] at hg
      have HO := Lib.hid ho
      by_cases h0 : k = 0
      · have hno : checkB l = false := by
          have : l = [] := List.length_eq_zero_iff.1 (by omega)
          rw [this]; rfl
        have HN := Lib.hid hno
        clear ho hg hno hln
        subst h0
        go_wp2_with fail
        rw [Exit.noGoto_ret]
        go_ret
        exact ⟨by rw [HN.out]; rfl, HO.out⟩
      · have hb0 : ((k : Int) == 0) = false := by simp; omega
        have hem : l.isEmpty = false := by
          cases l with
          | nil => simp at hln; omega
          | cons a t => rfl
        by_cases h6 : 6 < k
        · have hno : checkB l = false := by
            unfold checkB; rw [decide_eq_false (by omega)]; simp
          have HN := Lib.hid hno
          clear ho hg hno hln hem
          go_wp2_with fail
          rw [Exit.noGoto_ret]
          go_ret
          exact ⟨by rw [HN.out]; rfl, HO.out⟩
        · have hno : checkB l = true := by
            unfold checkB; rw [hg, hem, decide_eq_true (by omega)]; rfl
          have HN := Lib.hid hno
          clear ho hg hno hln hem
          go_wp2_with fail
          rw [Exit.noGoto_ret]
          go_ret
          exact ⟨by rw [HN.out]; rfl, HO.out⟩
end Go.Proofs.Ytdjgndnllaingaa.LabW
/-
  SMALL LAWS OF TEXTS AS LISTS.
-/
namespace Go.Proofs.Ytdjgndnllaingaa.LabW
open Go.RowKit Go.Shelf LabM
theorem ne_list {s : ByteArray} (h : ¬ s.toList = []) : s.data.toList.isEmpty = false := by
  rw [← toList_data]
  cases e : s.toList with
  | nil => exact absurd e h
  | cons => rfl
theorem em_list {s : ByteArray} (h : s.toList = []) : s.data.toList.isEmpty = true := by rw [← toList_data, h]; rfl
end Go.Proofs.Ytdjgndnllaingaa.LabW
