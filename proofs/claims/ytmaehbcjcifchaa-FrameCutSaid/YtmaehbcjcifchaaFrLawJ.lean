/-
  FrameJoins: THE WALK.
-/
import Derived.Test.YtmaehbcjcifchaaFrLawA
import Derived.Test.YtmaehbcjcifchaaAppC
namespace Go.Proofs.Ytmaehbcjcifchaa.FrW
set_option linter.unusedVariables false
open Go.RowKit CrcM CrcW FrM
theorem sp_small (most : Int) : ∀ (f : Nat) (s : List UInt8), (splitF f s most).1.length ≤ s.length ∧ ∀ b ∈ (splitF f s most).1, (b.length : Int) ≤ most := by
  intro f
  induction f with
  | zero => intro s; exact ⟨Nat.zero_le _, fun b h => by cases h⟩
  | succ f ih =>
    intro s
    rw [splitF_succ]
    split
    · exact ⟨Nat.zero_le _, fun b h => by cases h⟩
    split
    · rename_i h0 h1
      have hg : getF s most = ((getF s most).1, (getF s most).2.1, 0) := by rw [← h1]
      obtain ⟨e1, e2⟩ := getF_only hg
      have h5 := frm_pos (getF s most).1
      obtain ⟨i1, i2⟩ := ih (getF s most).2.1
      have e3 := congrArg List.length e1
      rw [List.length_append] at e3
      refine ⟨by simp only [List.length_cons]; omega, fun b h => ?_⟩
      rcases List.mem_cons.1 h with rfl | h
      · exact e2
      · exact i2 b h
    · exact ⟨Nat.zero_le _, fun b h => by cases h⟩
theorem flat_snoc (L : List (List UInt8)) (b : List UInt8) : flat (L ++ [b]) = flat L ++ frm b := by simp [flat]
theorem frm_le (b : List UInt8) : (frm b).length ≤ b.length + 14 := by rw [frm_len]; have := sm_len 9 b.length; show (sm 9 b.length).length + _ + 4 ≤ _; omega
theorem flat_le (L : List (List UInt8)) (h : ∀ b ∈ L, b.length ≤ 400) : (flat L).length ≤ L.length * 414 := by
  induction L with
  | nil => simp [flat]
  | cons b L ih =>
    have h1 := ih (fun x hx => h x (List.mem_cons_of_mem _ hx))
    have h2 := h b List.mem_cons_self
    have h3 := frm_le b
    have e : flat (b :: L) = frm b ++ flat L := by simp [flat]
    rw [e, List.length_append, List.length_cons]; omega
theorem comes_to {α : Type} {w : World} {size : Nat} {encA : α → List Value} {okA okB : α → Prop} {A : Option Addr} {n c : Nat} {l : List α} (h : Comes w size encA okA A n c l) (h2 : ∀ x ∈ l, okB x) : Comes w size encA okB A n c l := ⟨h.len, h.le, h.cap, h.lies, h2⟩
theorem oneT : ∀ (x : List UInt8), ∀ u ∈ encT x, u.oneCell' = true := by
  intro x u hu
  simp [encT] at hu
  subst hu; rfl
def leAll (l : List (List UInt8)) : Prop := ∀ b ∈ l, b.length ≤ 400
theorem leAll_snoc {l : List (List UInt8)} {b : List UInt8} (h : leAll l) (hb : b.length ≤ 400) : leAll (l ++ [b]) := by
  intro x hx
  rcases List.mem_append.1 hx with hx | hx
  · exact h x hx
  · simp at hx; subst hx; exact hb
/-! Behind the loop. -/
theorem joins_tup (l : List (List UInt8)) (s : List UInt8) (hl : leAll l) (hn : l.length ≤ 20) (hs : s.length ≤ 400) (w : World) :
    Calls Try.prog 16 #[.string (bs (flat l) ++ bs s), .int .i64 400] w fun e w' => ∃ A c, e = .returned (.tuple #[.slice A (l.length + (sp s 400).1.length) c, .int .i64 (((flat l).length : Int) + ((s.length : Int) - ((sp s 400).2.1.length : Int))), .int .i64 ((sp s 400).2.2 : Int)]) ∧
      Comes w' 1 encT okT A (l.length + (sp s 400).1.length) c (l ++ (sp s 400).1) ∧ Below w.heap.size w w' := by
  have hf := flat_le l hl
  have hf8 : (flat l).length ≤ 8280 := by omega
  have h := split_tup (flat l ++ s) 400 w (by rw [List.length_append]; omega) (by omega)
  rw [sp_flat 400 s l (fun b hb => ⟨by have := hl b hb; omega, by have := hl b hb; omega⟩)] at h
  rw [bs_append]
  refine h.mono ?_
  rintro e w' ⟨A, c, rfl, hc, hb⟩
  refine ⟨A, c, ?_, ?_, hb⟩
  · rw [List.length_append, List.length_append, Int.natCast_add, Int.add_sub_assoc]
  · have := comes_to (okB := okT) hc (fun x hx => by
      rcases List.mem_append.1 hx with hx | hx
      · have := hl x hx; unfold okT; omega
      · have := (sp_small 400 _ s).2 x hx; unfold okT; omega)
    rw [List.length_append] at this
    exact this
theorem split_ok (s : List UInt8) (hs : s.length ≤ 400) (w : World) :
    Calls Try.prog 16 #[.string (bs s), .int .i64 400] w fun e w' => ∃ A c, e = .returned (.tuple #[.slice A (sp s 400).1.length c, .int .i64 ((s.length : Int) - ((sp s 400).2.1.length : Int)), .int .i64 ((sp s 400).2.2 : Int)]) ∧
      Comes w' 1 encT okT A (sp s 400).1.length c (sp s 400).1 ∧ Below w.heap.size w w' := by
  refine (split_tup s 400 w (by omega) (by omega)).mono ?_
  rintro e w' ⟨A, c, rfl, hc, hb⟩
  exact ⟨A, c, rfl, comes_to hc (fun x hx => by have := (sp_small 400 _ s).2 x hx; unfold okT; omega), hb⟩
theorem sp_rest_le (s : List UInt8) (most : Int) : ∀ f, (splitF f s most).2.1.length ≤ s.length := by
  intro f
  induction f generalizing s with
  | zero => exact Nat.le_refl _
  | succ f ih =>
    rw [splitF_succ]
    split
    · exact Nat.le_refl _
    split
    · rename_i h0 h1
      have hg : getF s most = ((getF s most).1, (getF s most).2.1, 0) := by rw [← h1]
      obtain ⟨e1, e2⟩ := getF_only hg
      have i1 := ih (getF s most).2.1
      have e3 := congrArg List.length e1
      rw [List.length_append] at e3
      simp only []; omega
    · exact Nat.le_refl _
set_option maxRecDepth 20000 in
set_option maxHeartbeats 4000000 in
theorem frameJoins_all (A : Option Addr) (n c : Nat) (l : List (List UInt8)) (s : List UInt8) (w : World) (hl : Comes w 1 encT okT A n c l) (hs : s.length ≤ 9223372036854775807) :
    Calls Try.prog 8 #[.slice A n c, .string (bs s)] w fun e w' => e = .returned (.bool true) ∧ Below w.heap.size w w' := by
  have hzs := bs_size s
  have hcap : c ≤ 9223372036854775807 := hl.cap
  have hle := hl.le
  have HL := Lib.hid hl
  clear hl
  by_cases hex : 20 < n ∨ 400 < s.length
  · obtain ⟨X, hX⟩ : ∃ X, bs s = X := ⟨_, rfl⟩
    obtain ⟨sn, hsn⟩ : ∃ n, s.length = n := ⟨_, rfl⟩
    rw [hX] at hzs ⊢
    rw [hsn] at hzs hex hs
    clear hX hsn
    by_cases h1 : 20 < n
    · clear hex
      go_enter Try.func8, Try.ntmps8
      go_wp2_with fail
      refine (works_any _).mono ?_
      rintro e w1 ⟨rfl, hb1⟩
      go_wp2
      go_ret
      exact ⟨rfl, hb1⟩
    · have h2 : 400 < sn := by omega
      clear hex
      go_enter Try.func8, Try.ntmps8
      go_wp2_with fail
      refine (works_any _).mono ?_
      rintro e w1 ⟨rfl, hb1⟩
      go_wp2
      go_ret
      exact ⟨rfl, hb1⟩
  have hn20 : n ≤ 20 := by omega
  have hs4 : s.length ≤ 400 := by omega
  have HLL := Lib.hid HL.out.len
  have HSP := Lib.hid (split_ok s hs4)
  have HSR := Lib.hid (sp_rest_le s 400 (s.length + 1))
  have HSN := Lib.hid (sp_small 400 (s.length + 1) s).1
  have HJ := Lib.hid (fun h => joins_tup l s h (by rw [HL.out.len]; exact hn20) hs4)
  obtain ⟨X, hX⟩ : ∃ X, bs s = X := ⟨_, rfl⟩
  rw [hX] at hzs HSP HJ ⊢
  clear hX hex
  rw [HL.out.len] at HJ
  obtain ⟨S1, hS1⟩ : ∃ S, (sp s 400).1 = S := ⟨_, rfl⟩
  obtain ⟨R1, hR1⟩ : ∃ S, (sp s 400).2.1 = S := ⟨_, rfl⟩
  obtain ⟨q, hq⟩ : ∃ S, (sp s 400).2.2 = S := ⟨_, rfl⟩
  rw [show (splitF (s.length + 1) s 400) = sp s 400 from rfl, hR1] at HSR
  rw [show (splitF (s.length + 1) s 400) = sp s 400 from rfl, hS1] at HSN
  rw [hS1, hR1, hq] at HSP HJ
  obtain ⟨sn, hsn⟩ : ∃ n, s.length = n := ⟨_, rfl⟩
  obtain ⟨rn, hrn⟩ : ∃ n, R1.length = n := ⟨_, rfl⟩
  rw [hsn] at hzs hs4 HSP HJ HSR HSN
  rw [hrn] at HSP HJ HSR
  have hrs : rn ≤ sn := HSR.out
  have hs1n : S1.length ≤ sn := HSN.out
  clear hS1 hR1 hq hsn hrn HSR HSN hs
  go_enter Try.func8, Try.ntmps8
  go_wp2_with fail
  refine (works_any _).mono ?_
  rintro e w1 ⟨rfl, hb1⟩
  have HB1 := Lib.hid hb1
  clear hb1
  go_wp2_with fail
  go_loopw [6, 7] (fun v6 v7 wr => ∃ k : Nat, k ≤ n ∧ v7 = .int .i64 k ∧ v6 = .string (bs (flat (l.take k))) ∧ leAll (l.take k) ∧ Below w.heap.size w wr) (fun _ v7 _ => n - (intOf v7).toNat)
  case atStart => exact ⟨0, Nat.zero_le _, rfl, rfl, fun b h => by simp at h, HB1.out⟩
  case round =>
    obtain ⟨k, hk, rfl, rfl, ht, ho⟩ := hrel
    have hln := HLL.out
    have hfl := flat_le _ ht
    have htl : (l.take k).length = k := by rw [List.length_take]; omega
    rw [htl] at hfl
    have hzf := bs_size (flat (l.take k))
    obtain ⟨fn, hfn⟩ : ∃ n, (flat (l.take k)).length = n := ⟨_, rfl⟩
    rw [hfn] at hzf hfl
    have hfb : fn ≤ 8280 := by omega
    clear htl hfl
    by_cases hlt : k < n
    · have hkl : k < l.length := by omega
      obtain ⟨b, o, rfl, hcs⟩ := t_cells HL.out.lies hkl
      have hc0 := hcs _ ho
      have hs1 : l.take (k + 1) = l.take k ++ [l[k]] := by rw [List.take_add_one, List.getElem?_eq_getElem hkl]; rfl
      have hokx := HL.out.ok l[k] (List.getElem_mem hkl)
      obtain ⟨x, hx⟩ : ∃ x, l[k] = x := ⟨_, rfl⟩
      rw [hx] at hc0 hs1 hokx
      have hzx := bs_size x
      have HO := Lib.hid ho
      have HT := Lib.hid ht
      have HS := Lib.hid hs1
      have i0 : (0 : Int) ≤ (k : Int) := by omega
      have i1 : (k : Int) < (n : Int) := by omega
      clear hx hs1 ht hcs hln hkl
      by_cases hx4 : x.length ≤ 400
      · have HP := Lib.hid (fun W => put_any x W (by omega))
        have HF := Lib.hid (show bs (flat (l.take k)) ++ bs (frm x) = bs (flat (l.take (k + 1))) by rw [bs_append, HS.out, flat_snoc])
        have HNX := Lib.hid (show leAll (l.take (k + 1)) by rw [HS.out]; exact leAll_snoc HT.out hx4)
        have hzp := bs_size (frm x)
        have hfx := frm_le x
        obtain ⟨P, hP⟩ : ∃ P, bs (frm x) = P := ⟨_, rfl⟩
        obtain ⟨Z, hZ⟩ : ∃ Z, bs x = Z := ⟨_, rfl⟩
        obtain ⟨F, hF⟩ : ∃ F, bs (flat (l.take k)) = F := ⟨_, rfl⟩
        rw [hP] at HP HF hzp
        rw [hZ] at hc0 hzx HP
        rw [hF] at HF hzf ⊢
        obtain ⟨pn, hpn⟩ : ∃ n, (frm x).length = n := ⟨_, rfl⟩
        obtain ⟨xn, hxn⟩ : ∃ n, x.length = n := ⟨_, rfl⟩
        rw [hpn] at hzp hfx
        rw [hxn] at hzx hx4 hfx
        clear hP hZ hF hpn hxn hokx ho
        go_wp2_with fail
        refine (HP.out _).mono ?_
        rintro e w2 ⟨rfl, hb2⟩
        have hsum : F ++ P = bs (flat (l.take (k + 1))) := HF.out
        have HB2 := Lib.hid (later HO.out hb2)
        clear hb2
        go_wp2_with fail
        go_roundw
        case rel => exact ⟨k + 1, by omega, by go_num, rfl, HNX.out, HB2.out⟩
        case measure => simp [intOf]; omega
      · have hx5 : 400 < x.length := by omega
        obtain ⟨Z, hZ⟩ : ∃ Z, bs x = Z := ⟨_, rfl⟩
        obtain ⟨F, hF⟩ : ∃ F, bs (flat (l.take k)) = F := ⟨_, rfl⟩
        rw [hZ] at hc0 hzx
        rw [hF] at hzf ⊢
        unfold okT at hokx
        obtain ⟨xn, hxn⟩ : ∃ n, x.length = n := ⟨_, rfl⟩
        rw [hxn] at hzx hx5 hokx
        clear hZ hF hxn hx4 ho
        go_wp2_with fail
        go_ret
        exact ⟨rfl, HO.out⟩
    · obtain rfl : k = n := by omega
      have htl : l.take k = l := List.take_of_length_le (by omega)
      rw [htl] at ht hzf hfn ⊢
      have HJ2 := Lib.hid (HJ.out ht)
      rw [hfn] at HJ2
      have HT := Lib.hid ht
      obtain ⟨F, hF⟩ : ∃ F, bs (flat l) = F := ⟨_, rfl⟩
      rw [hF] at HJ2 hzf ⊢
      have HO := Lib.hid ho
      clear hF ht htl HJ hfn hlt hln ho
      go_wp2_with fail
      refine (HSP.out _).mono ?_
      rintro e w3 ⟨A3, c3, rfl, hc3, hb3⟩
      have HC3 := Lib.hid hc3
      have HB3 := Lib.hid (later HO.out hb3)
      clear hc3 hb3
      go_wp2_with fail
      refine (HJ2.out _).mono ?_
      rintro e w4 ⟨A4, c4, rfl, hc4, hb4⟩
      have HC4 := Lib.hid hc4
      have HC34 := Lib.hid (HC3.out.later hb4)
      have HB4 := Lib.hid (later HB3.out hb4)
      clear hc4 hb4 HC3
      have m1 : k + S1.length ≤ 420 := by omega
      go_wp2_with (at_builtin; first
        | (refine wpList_append_comes rfl _ _ 33 rfl w4.heap.size 9 (.string ⟨#[]⟩) 1 16 Try.underlying33 elemStr rfl (by decide) w4 (World.ownsRow_nil w4 w4.heap.size _ _) rfl rfl (HL.out.later HB4.out) (fun _ => rfl) oneT (by omega) (by omega) (Nat.le_refl _) ?_
           intro v5 w5 hown5 hb5
           have HB5 := Lib.hid hb5
           have HO5 := Lib.hid hown5
           clear hb5 hown5)
        | (refine wpList_append_comes rfl _ _ 33 rfl w4.heap.size 9 (.string ⟨#[]⟩) 1 16 Try.underlying33 elemStr rfl (by decide) w5 HO5.out rfl rfl (HC34.out.later HB5.out) (fun _ => rfl) oneT (by omega) (by omega) HB5.out.size ?_
           intro v6 w6 hown6 hb6
           have hb46 := HB5.out.trans hb6
           have HB6 := Lib.hid (later HB4.out hb46)
           have hown6' : w6.ownsRow w4.heap.size 9 1 v6 (k + S1.length) ((l ++ S1).flatMap encT) := by
             have := hown6
             rw [Nat.zero_add, List.nil_append] at this
             rw [List.flatMap_append]; exact this
           obtain ⟨A6, c6, rfl, -, hc6⟩ := Comes.of_own (okA := okT) hown6' (fun _ => rfl) (by decide) (HC4.out.ok)
           have HC6 := Lib.hid hc6
           have HC46 := Lib.hid (HC4.out.later hb46)
           clear hb6 hb46 hown6 hown6' hc6 HO5 HC4))
      refine (texts_any A4 (k + S1.length) c4 (l ++ S1) A6 (k + S1.length) c6 (l ++ S1) w6 HC46.out HC6.out).mono ?_
      rw [decide_eq_true (rfl : l ++ S1 = l ++ S1)]
      rintro e w7 ⟨rfl, hb7⟩
      have HB7 := Lib.hid (later HB6.out hb7)
      clear hb7
      go_wp2
      go_ret
      exact ⟨rfl, HB7.out⟩
end Go.Proofs.Ytmaehbcjcifchaa.FrW
