/-
  label.Show: THE WALK.
-/
import Derived.Test.YtgnifdkoaajboaaLbKey
namespace Go.Proofs.Ytgnifdkoaajboaa.FrW
set_option linter.unusedVariables false
open Go.RowKit FrM LabM LbM LabW
theorem esc_at (v : List UInt8) (j : Nat) (h : j < v.length) : esc (v.drop j) = (if v[j] = 34 ∨ v[j] = 92 then [92, v[j]] else [v[j]]) ++ esc (v.drop (j + 1)) := by
  unfold esc; rw [List.drop_eq_getElem_cons h, List.flatMap_cons]
theorem shG_at (l : List Lab) (k : Nat) (h : k < l.length) (t : List UInt8) : shG k (l.drop k) ++ t = (if 0 < k then [44] else []) ++ (l[k].1.data.toList ++ (61 :: 34 :: (esc l[k].2.data.toList ++ 34 :: (shG (k + 1) (l.drop (k + 1)) ++ t)))) := by
  rw [List.drop_eq_getElem_cons h, shG, List.append_assoc, List.append_assoc, one_app]
/-- Between two writes of Show: the builder's bytes, and the label in the block g. -/
def ShSt (w : World) (g : Nat) (x1 x2 : ByteArray) (acc : List UInt8) (W : World) : Prop :=
  Bd w.heap.size w.heap.size acc W ∧ Below w.heap.size w W ∧ w.heap.size < g ∧ W.heap[g]? = some (.cells #[.string x1, .string x2] 38 (0, 0))
theorem ShSt.c0 {w W : World} {g : Nat} {x1 x2 : ByteArray} {acc : List UInt8} (h : ShSt w g x1 x2 acc W) : W.cell? ⟨g, 0, none⟩ = some (.string x1) := by rw [cell_of_row _ _ _ _ _ _ h.2.2.2]; rfl
theorem ShSt.c1 {w W : World} {g : Nat} {x1 x2 : ByteArray} {acc : List UInt8} (h : ShSt w g x1 x2 acc W) : W.cell? ⟨g, 1, none⟩ = some (.string x2) := by rw [cell_of_row _ _ _ _ _ _ h.2.2.2]; rfl
theorem ShSt.wb {w W : World} {g : Nat} {x1 x2 : ByteArray} {acc : List UInt8} (h : ShSt w g x1 x2 acc W) (c : UInt8) (x : Int) (hx : (c.toNat : Int) = x) (hlen : acc.length + 1 ≤ 140737488355328) :
    Calls Try.prog 40 #[.pointer (some ⟨w.heap.size, 0, none⟩), .int .u8 x] W fun e w' => e = .returned .nilIface ∧ ShSt w g x1 x2 (acc ++ [c]) w' := by
  subst hx
  refine (writeb_any _ _ acc c W h.1 hlen h.2.1.size).mono ?_
  rintro e w' ⟨rfl, h1, h2, h3⟩
  exact ⟨rfl, h1, h.2.1.trans h2, h.2.2.1, h3 _ _ _ (by have := h.2.2.1; omega) (by decide) h.2.2.2⟩
theorem ShSt.ws {w W : World} {g : Nat} {x1 x2 : ByteArray} {acc : List UInt8} (h : ShSt w g x1 x2 acc W) (m : List UInt8) (M : ByteArray) (hM : bs m = M) (hlen : acc.length + m.length ≤ 140737488355328) :
    Calls Try.prog 36 #[.pointer (some ⟨w.heap.size, 0, none⟩), .string M] W fun e w' => e = .returned (.tuple #[.int .i64 (m.length : Int), .nilIface]) ∧ ShSt w g x1 x2 (acc ++ m) w' := by
  subst hM
  refine (writes_any _ _ acc m W h.1 hlen h.2.1.size).mono ?_
  rintro e w' ⟨rfl, h1, h2, h3⟩
  exact ⟨rfl, h1, h.2.1.trans h2, h.2.2.1, h3 _ _ _ (by have := h.2.2.1; omega) (by decide) h.2.2.2⟩
theorem writeb_x (B b : Nat) (l : List UInt8) (c : UInt8) (x : Int) (hx : (c.toNat : Int) = x) (w : World) (h : Bd B b l w) (hlen : l.length + 1 ≤ 140737488355328) (hBw : B ≤ w.heap.size) :
    Calls Try.prog 40 #[.pointer (some ⟨b, 0, none⟩), .int .u8 x] w fun e w' => e = .returned .nilIface ∧ Bd B b (l ++ [c]) w' ∧ Below B w w' ∧ Keeps b w w' := by
  subst hx
  exact writeb_any B b l c w h hlen hBw
set_option maxRecDepth 20000 in
set_option maxHeartbeats 4000000 in
theorem show_any (A : Option Addr) (n c : Nat) (l : List Lab) (w : World) (hl : Comes w 2 encL okL A n c l) (hn : n ≤ 10) (hs : shortL l) :
    Calls Try.prog 21 #[.slice A n c] w fun e w' => e = .returned (.string (bs (showL l))) ∧ Below w.heap.size w w' := by
  have HL := Lib.hid hl
  have HS := Lib.hid hs
  have hcap : c ≤ 9223372036854775807 := hl.cap
  have hle := hl.le
  obtain ⟨S, hS⟩ : ∃ S, showL l = S := ⟨_, rfl⟩
  rw [hS]
  have HK := Lib.hid hS
  clear hl hs hS
  have CB := Lib.hid (writeb_x w.heap.size w.heap.size [] 123 123 rfl _ (Bd.fresh w) (by decide) (by simp))
  have HB0 := Lib.hid (show Below w.heap.size w (w.alloc (.cells #[.pointer none, .slice none 0 0] 46 (0, 0))) from (Below.refl _ _).alloc (Nat.le_refl _) _)
  go_enter Try.func21, Try.ntmps21
  go_wp2_with fail
  refine CB.out.mono ?_
  rintro e w1 ⟨rfl, hbd1, hb1, hk1⟩
  have H1 := Lib.hid (And.intro hbd1 (HB0.out.trans hb1))
  clear hbd1 hb1 hk1 CB HB0
  go_wp2_with fail
  go_loopw [11] (fun v11 wr => ∃ (k : Nat) (acc : List UInt8), k ≤ n ∧ v11 = .int .i64 k ∧ acc.length ≤ 1 + k * 910 ∧ S = acc ++ (shG k (l.drop k) ++ [125]) ∧ Bd w.heap.size w.heap.size acc wr ∧ Below w.heap.size w wr) (fun v11 _ => n - (intOf v11).toNat)
  case atStart => exact ⟨0, [123], Nat.zero_le _, rfl, Nat.le_refl _, HK.out.symm, H1.out.1, H1.out.2⟩
  case round =>
    clear H1 w1
    obtain ⟨k, acc, hk, rfl, hal, hacc, hbd, ho⟩ := hrel
    have hln := HL.out.len
    by_cases hlt : k < n
    · have hkl : k < l.length := by omega
      obtain ⟨b, o, rfl, hcs⟩ := lab_cells HL.out.lies hkl
      obtain ⟨hc0, hc1⟩ := hcs _ ho
      have hok := HS.out _ (List.getElem_mem hkl)
      rw [shG_at l k hkl] at hacc
      generalize l[k] = x at *
      obtain ⟨x1, x2⟩ := x
      obtain ⟨hx1, hx2⟩ := hok
      simp only [] at hc0 hc1 hacc hx1 hx2
      have hst0 : ShSt w wr.heap.size x1 x2 acc (wr.alloc (.cells #[.string x1, .string x2] 38 (0, 0))) := ⟨hbd.later ((Below.refl _ _).alloc (Nat.le_refl _) _), ho.alloc ho.size _, hbd.lt, heap_alloc_new wr _⟩
      obtain ⟨R, hR⟩ : ∃ R, shG (k + 1) (l.drop (k + 1)) ++ [125] = R := ⟨_, rfl⟩
      have HR := Lib.hid hR
      rw [hR] at hacc
      have hl1 : x1.data.toList.length = x1.size := by simp
      have hl2 : x2.data.toList.length = x2.size := by simp
      have hbb : bs (x1.data.toList ++ [61]) = x1 ++ ⟨#[61]⟩ := by rw [← bs_append]; rfl
      have hadd : ∀ W : World, (Op.stringOp .add x1 ⟨#[61]⟩).run Try.prog W = .ok (.string (x1 ++ ⟨#[61]⟩)) W := fun W => run_string_add_sum W x1 ⟨#[61]⟩ (by show x1.size + 1 ≤ _; omega)
      have HF0 := Lib.hid (And.intro hacc (And.intro hal (And.intro hx1 (And.intro hx2 (And.intro hl1 hl2)))))
      have HST0 := Lib.hid hst0
      have HBB := Lib.hid hbb
      have c0 := hst0.c0
      have c1 := hst0.c1
      obtain ⟨q, hq⟩ : ∃ q, x2.size = q := ⟨_, rfl⟩
      have hq300 : q ≤ 300 := by omega
      have HG := Lib.hid (fun (i : Nat) (h : i < x2.size) (h2 : i < x2.data.toList.length) => (show x2[i]'h = x2.data.toList[i]'h2 from rfl))
      obtain ⟨X, hX⟩ : ∃ X, x1 ++ ⟨#[61]⟩ = X := ⟨_, rfl⟩
      rw [hX] at hadd HBB
      clear ho hln hcs hbd hacc hl1 hl2 hal hx1 hx2 hst0 hR hbb hX
      have hgl : w.heap.size < wr.heap.size := HST0.out.2.2.1
      rcases Nat.eq_zero_or_pos k with hk0 | hk0
      · have HF : Hid (acc.length ≤ 2 + k * 910 ∧ S = acc ++ (x1.data.toList ++ (61 :: 34 :: (esc x2.data.toList ++ 34 :: R)))) := Lib.hid ⟨by have := HF0.out.2.1; omega, by rw [HF0.out.1, if_neg (by omega)]; rfl⟩
        have hk1 : decide ((0 : Int) < (k : Int)) = false := by simp; omega
        have hk2 : ¬ (0 : Int) < (k : Int) := by omega
        have HK0 := Lib.hid hk0
        clear hk0
        go_wp2_with fail
        generalize (wr.alloc (.cells #[.string x1, .string x2] 38 (0, 0))) = W3 at *
        generalize wr.heap.size = g at *
        refine (HST0.out.ws (x1.data.toList ++ [61]) X HBB.out (by have := HF.out.1; have h := HF0.out; rw [List.length_append] ; simp only [List.length_cons, List.length_nil]; omega)).mono ?_
        rintro e w4 ⟨rfl, hst4⟩
        have hlen4 : (acc ++ (x1.data.toList ++ [61])).length ≤ 303 + k * 910 := by have := HF.out.1; have h := HF0.out; rw [List.length_append, List.length_append]; simp only [List.length_cons, List.length_nil]; omega
        have hac4 : S = (acc ++ (x1.data.toList ++ [61])) ++ (34 :: (esc x2.data.toList ++ 34 :: R)) := by rw [HF.out.2]; simp
        generalize acc ++ (x1.data.toList ++ [61]) = acc4 at *
        have HST4 := Lib.hid (And.intro hst4 (And.intro hlen4 hac4))
        clear hst4 hlen4 hac4 HF
        go_wp2_with fail
        refine (HST4.out.1.wb 34 34 rfl (by have := HST4.out.2.1; omega)).mono ?_
        rintro e w5 ⟨rfl, hst5⟩
        have c0 := hst5.c0
        have c1 := hst5.c1
        have HST5 : Hid (ShSt w g x1 x2 (acc4 ++ [34]) w5 ∧ (acc4 ++ [34]).length ≤ 304 + k * 910 ∧ S = (acc4 ++ [34]) ++ (esc x2.data.toList ++ 34 :: R)) := Lib.hid ⟨hst5, by have := HST4.out.2.1; rw [List.length_append]; simp only [List.length_cons, List.length_nil]; omega, by rw [HST4.out.2.2]; simp⟩
        generalize acc4 ++ [34] = acc5 at *
        clear hst5 HST4
        go_wp2_with fail
        go_loopw [27] (fun v27 wr => ∃ (j : Nat) (a : List UInt8), j ≤ q ∧ v27 = .int .i64 j ∧ a.length ≤ 304 + k * 910 + 2 * j ∧ S = a ++ (esc (x2.data.toList.drop j) ++ 34 :: R) ∧ ShSt w g x1 x2 a wr) (fun v27 _ => q - (intOf v27).toNat)
        case atStart => exact ⟨0, acc5, Nat.zero_le _, rfl, HST5.out.2.1, HST5.out.2.2, HST5.out.1⟩
        case round =>
          clear HST5 c0 c1 w4 w5
          obtain ⟨j, a, hj, rfl, hal, hacc, hst⟩ := hrel
          have c0 := hst.c0
          have c1 := hst.c1
          by_cases hjq : j < q
          · have hjx : j < x2.size := by omega
            have hjl : j < x2.data.toList.length := by have := HF0.out; omega
            have hg := HG.out j hjx hjl
            rw [esc_at _ j hjl] at hacc
            obtain ⟨y, hy⟩ : ∃ y, x2.data.toList[j] = y := ⟨_, rfl⟩
            rw [hy] at hg hacc
            obtain ⟨z, hz⟩ : ∃ z, y.toNat = z := ⟨_, rfl⟩
            have hgz : x2[j].toNat = z := by rw [hg]; exact hz
            have y34 : y = 34 ↔ z = 34 := by rw [← hz]; exact UInt8.toNat_inj.symm
            have y92 : y = 92 ↔ z = 92 := by rw [← hz]; exact UInt8.toNat_inj.symm
            have j0 : (0 : Int) ≤ (j : Int) := by omega
            have j1 : (j : Int) < (q : Int) := by omega
            have hzz : (y.toNat : Int) = (z : Int) := by rw [hz]
            by_cases h34 : z = 34 ∨ z = 92
            · rw [if_pos (by rw [y34, y92]; exact h34)] at hacc
              have HI := Lib.hid (And.intro hst (And.intro hal (And.intro hacc hzz)))
              have hd34 : ((z : Int) == 34) = true ∨ (((z : Int) == 34) = false ∧ ((z : Int) == 92) = true) := by
                rcases h34 with h | h
                · left; simp; omega
                · right; constructor <;> simp <;> omega
              clear hg hy hst hal hacc hz hzz y34 y92 h34
              rcases hd34 with hd | ⟨hd, hd2⟩
              all_goals (
                go_wp2_with fail
                refine (HI.out.1.wb 92 92 rfl (by have := HI.out.2.1; omega)).mono ?_
                rintro e w6 ⟨rfl, hst6⟩
                have c0 := hst6.c0
                have c1 := hst6.c1
                have H6 := Lib.hid hst6
                clear hst6
                go_wp2_with fail
                refine (H6.out.wb y (z : Int) HI.out.2.2.2 (by have := HI.out.2.1; rw [List.length_append]; simp only [List.length_cons, List.length_nil]; omega)).mono ?_
                rintro e w7 ⟨rfl, hst7⟩
                have H7 := Lib.hid hst7
                clear hst7 c0 c1 H6
                go_wp2_with fail
                go_roundw
                case rel => exact ⟨j + 1, a ++ [92] ++ [y], by omega, by go_num, by have := HI.out.2.1; rw [List.length_append, List.length_append]; simp only [List.length_cons, List.length_nil]; omega, by rw [HI.out.2.2.1]; simp, H7.out⟩
                case measure => simp [intOf]; omega)
            · rw [if_neg (by rw [y34, y92]; exact h34)] at hacc
              have HI := Lib.hid (And.intro hst (And.intro hal (And.intro hacc hzz)))
              have hd : ((z : Int) == 34) = false := by simp; omega
              have hd2 : ((z : Int) == 92) = false := by simp; omega
              clear hg hy hst hal hacc hz hzz y34 y92 h34
              go_wp2_with fail
              refine (HI.out.1.wb y (z : Int) HI.out.2.2.2 (by have := HI.out.2.1; omega)).mono ?_
              rintro e w7 ⟨rfl, hst7⟩
              have H7 := Lib.hid hst7
              clear hst7 c0 c1
              go_wp2_with fail
              go_roundw
              case rel => exact ⟨j + 1, a ++ [y], by omega, by go_num, by have := HI.out.2.1; rw [List.length_append]; simp only [List.length_cons, List.length_nil]; omega, by rw [HI.out.2.2.1]; simp, H7.out⟩
              case measure => simp [intOf]; omega
          · have hjq : j = q := by omega
            rw [List.drop_of_length_le (by have := HF0.out; omega)] at hacc
            have HI := Lib.hid (And.intro hst (And.intro hal (show S = a ++ 34 :: R from hacc)))
            clear hst hal hacc
            subst hjq
            go_wp2_with fail
            refine (HI.out.1.wb 34 34 rfl (by have := HI.out.2.1; omega)).mono ?_
            rintro e w7 ⟨rfl, hst7⟩
            have H7 := Lib.hid hst7
            clear hst7 c0 c1
            go_wp2_with fail
            go_round
            case rel => exact ⟨k + 1, a ++ [34], by omega, by go_num, by have := HI.out.2.1; have := HF0.out; rw [List.length_append]; simp only [List.length_cons, List.length_nil]; omega, by rw [HI.out.2.2, ← HR.out]; simp, H7.out.1, H7.out.2.1⟩
            case measure => simp [intOf]; omega
      · have HF : Hid ((acc ++ [44]).length ≤ 2 + k * 910 ∧ S = (acc ++ [44]) ++ (x1.data.toList ++ (61 :: 34 :: (esc x2.data.toList ++ 34 :: R)))) := Lib.hid ⟨by have := HF0.out.2.1; rw [List.length_append]; simp; omega, by rw [HF0.out.1, if_pos hk0]; simp⟩
        have hk1 : decide ((0 : Int) < (k : Int)) = true := by simp; omega
        have hk2 : (0 : Int) < (k : Int) := by omega
        go_wp2_with fail
        generalize (wr.alloc (.cells #[.string x1, .string x2] 38 (0, 0))) = W0 at *
        generalize wr.heap.size = g at *
        refine (HST0.out.wb 44 44 rfl (by have := HF0.out.2.1; omega)).mono ?_
        rintro e W3 ⟨rfl, hst3⟩
        have c0 := hst3.c0
        have c1 := hst3.c1
        have HST0 := Lib.hid hst3
        clear hst3
        generalize acc ++ [44] = acc3 at *
        go_wp2_with fail
        refine (HST0.out.ws (x1.data.toList ++ [61]) X HBB.out (by have := HF.out.1; have h := HF0.out; rw [List.length_append] ; simp only [List.length_cons, List.length_nil]; omega)).mono ?_
        rintro e w4 ⟨rfl, hst4⟩
        have hlen4 : (acc3 ++ (x1.data.toList ++ [61])).length ≤ 303 + k * 910 := by have := HF.out.1; have h := HF0.out; rw [List.length_append, List.length_append]; simp only [List.length_cons, List.length_nil]; omega
        have hac4 : S = (acc3 ++ (x1.data.toList ++ [61])) ++ (34 :: (esc x2.data.toList ++ 34 :: R)) := by rw [HF.out.2]; simp
        generalize acc3 ++ (x1.data.toList ++ [61]) = acc4 at *
        have HST4 := Lib.hid (And.intro hst4 (And.intro hlen4 hac4))
        clear hst4 hlen4 hac4 HF
        go_wp2_with fail
        refine (HST4.out.1.wb 34 34 rfl (by have := HST4.out.2.1; omega)).mono ?_
        rintro e w5 ⟨rfl, hst5⟩
        have c0 := hst5.c0
        have c1 := hst5.c1
        have HST5 : Hid (ShSt w g x1 x2 (acc4 ++ [34]) w5 ∧ (acc4 ++ [34]).length ≤ 304 + k * 910 ∧ S = (acc4 ++ [34]) ++ (esc x2.data.toList ++ 34 :: R)) := Lib.hid ⟨hst5, by have := HST4.out.2.1; rw [List.length_append]; simp only [List.length_cons, List.length_nil]; omega, by rw [HST4.out.2.2]; simp⟩
        generalize acc4 ++ [34] = acc5 at *
        clear hst5 HST4
        go_wp2_with fail
        go_loopw [27] (fun v27 wr => ∃ (j : Nat) (a : List UInt8), j ≤ q ∧ v27 = .int .i64 j ∧ a.length ≤ 304 + k * 910 + 2 * j ∧ S = a ++ (esc (x2.data.toList.drop j) ++ 34 :: R) ∧ ShSt w g x1 x2 a wr) (fun v27 _ => q - (intOf v27).toNat)
        case atStart => exact ⟨0, acc5, Nat.zero_le _, rfl, HST5.out.2.1, HST5.out.2.2, HST5.out.1⟩
        case round =>
          clear HST5 c0 c1 w4 w5
          obtain ⟨j, a, hj, rfl, hal, hacc, hst⟩ := hrel
          have c0 := hst.c0
          have c1 := hst.c1
          by_cases hjq : j < q
          · have hjx : j < x2.size := by omega
            have hjl : j < x2.data.toList.length := by have := HF0.out; omega
            have hg := HG.out j hjx hjl
            rw [esc_at _ j hjl] at hacc
            obtain ⟨y, hy⟩ : ∃ y, x2.data.toList[j] = y := ⟨_, rfl⟩
            rw [hy] at hg hacc
            obtain ⟨z, hz⟩ : ∃ z, y.toNat = z := ⟨_, rfl⟩
            have hgz : x2[j].toNat = z := by rw [hg]; exact hz
            have y34 : y = 34 ↔ z = 34 := by rw [← hz]; exact UInt8.toNat_inj.symm
            have y92 : y = 92 ↔ z = 92 := by rw [← hz]; exact UInt8.toNat_inj.symm
            have j0 : (0 : Int) ≤ (j : Int) := by omega
            have j1 : (j : Int) < (q : Int) := by omega
            have hzz : (y.toNat : Int) = (z : Int) := by rw [hz]
            by_cases h34 : z = 34 ∨ z = 92
            · rw [if_pos (by rw [y34, y92]; exact h34)] at hacc
              have HI := Lib.hid (And.intro hst (And.intro hal (And.intro hacc hzz)))
              have hd34 : ((z : Int) == 34) = true ∨ (((z : Int) == 34) = false ∧ ((z : Int) == 92) = true) := by
                rcases h34 with h | h
                · left; simp; omega
                · right; constructor <;> simp <;> omega
              clear hg hy hst hal hacc hz hzz y34 y92 h34
              rcases hd34 with hd | ⟨hd, hd2⟩
              all_goals (
                go_wp2_with fail
                refine (HI.out.1.wb 92 92 rfl (by have := HI.out.2.1; omega)).mono ?_
                rintro e w6 ⟨rfl, hst6⟩
                have c0 := hst6.c0
                have c1 := hst6.c1
                have H6 := Lib.hid hst6
                clear hst6
                go_wp2_with fail
                refine (H6.out.wb y (z : Int) HI.out.2.2.2 (by have := HI.out.2.1; rw [List.length_append]; simp only [List.length_cons, List.length_nil]; omega)).mono ?_
                rintro e w7 ⟨rfl, hst7⟩
                have H7 := Lib.hid hst7
                clear hst7 c0 c1 H6
                go_wp2_with fail
                go_roundw
                case rel => exact ⟨j + 1, a ++ [92] ++ [y], by omega, by go_num, by have := HI.out.2.1; rw [List.length_append, List.length_append]; simp only [List.length_cons, List.length_nil]; omega, by rw [HI.out.2.2.1]; simp, H7.out⟩
                case measure => simp [intOf]; omega)
            · rw [if_neg (by rw [y34, y92]; exact h34)] at hacc
              have HI := Lib.hid (And.intro hst (And.intro hal (And.intro hacc hzz)))
              have hd : ((z : Int) == 34) = false := by simp; omega
              have hd2 : ((z : Int) == 92) = false := by simp; omega
              clear hg hy hst hal hacc hz hzz y34 y92 h34
              go_wp2_with fail
              refine (HI.out.1.wb y (z : Int) HI.out.2.2.2 (by have := HI.out.2.1; omega)).mono ?_
              rintro e w7 ⟨rfl, hst7⟩
              have H7 := Lib.hid hst7
              clear hst7 c0 c1
              go_wp2_with fail
              go_roundw
              case rel => exact ⟨j + 1, a ++ [y], by omega, by go_num, by have := HI.out.2.1; rw [List.length_append]; simp only [List.length_cons, List.length_nil]; omega, by rw [HI.out.2.2.1]; simp, H7.out⟩
              case measure => simp [intOf]; omega
          · have hjq : j = q := by omega
            rw [List.drop_of_length_le (by have := HF0.out; omega)] at hacc
            have HI := Lib.hid (And.intro hst (And.intro hal (show S = a ++ 34 :: R from hacc)))
            clear hst hal hacc
            subst hjq
            go_wp2_with fail
            refine (HI.out.1.wb 34 34 rfl (by have := HI.out.2.1; omega)).mono ?_
            rintro e w7 ⟨rfl, hst7⟩
            have H7 := Lib.hid hst7
            clear hst7 c0 c1
            go_wp2_with fail
            go_round
            case rel => exact ⟨k + 1, a ++ [34], by omega, by go_num, by have := HI.out.2.1; have := HF0.out; rw [List.length_append]; simp only [List.length_cons, List.length_nil]; omega, by rw [HI.out.2.2, ← HR.out]; simp, H7.out.1, H7.out.2.1⟩
            case measure => simp [intOf]; omega
    · have hkn : k = n := by omega
      subst hkn
      rw [List.drop_of_length_le (by omega)] at hacc
      have HH := Lib.hid (And.intro ho (And.intro hbd (show S = acc ++ [125] from hacc)))
      have hlen : acc.length + 1 ≤ 140737488355328 := by omega
      have CB := Lib.hid (writeb_x w.heap.size w.heap.size acc 125 125 rfl wr hbd hlen ho.size)
      clear ho hbd hacc hal hlen
      go_wp2_with fail
      refine CB.out.mono ?_
      rintro e w7 ⟨rfl, hbd7, hb7, hk7⟩
      rw [← HH.out.2.2] at hbd7
      have CS := Lib.hid (bstring_any w.heap.size w.heap.size S w7 hbd7 (Nat.le_trans HH.out.1.size hb7.size))
      have H7 := Lib.hid (HH.out.1.trans hb7)
      clear hbd7 hb7 hk7 CB HH
      go_wp2_with fail
      refine CS.out.mono ?_
      rintro e w8 ⟨rfl, hb8⟩
      go_wp2
      go_ret
      exact ⟨rfl, H7.out.trans hb8⟩
end Go.Proofs.Ytgnifdkoaajboaa.FrW
