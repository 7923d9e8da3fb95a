/-
  CHUNKS: THE PLAIN LAW: samples as bytes, in three generations. No program is in sight here.
-/
import Derived.Test.YtdidengokijcjaaDoorJ01
import Derived.Test.YtdidengokijcjaaDoorJ13
import Derived.Test.YtdidengokijcjaaDoorJ05
/-
  CHUNKS: THE PLAIN LAW: samples as bytes, in three generations. No program is in sight here.
-/
namespace Go.Proofs.YtdidengokijcjaaDoor.ChM
set_option linter.unusedVariables false
open Go.RowKit FrM StM CrcM BitsM
abbrev Txt := List UInt8
abbrev Sm := Int × Int
/-! ### Numbers of a fixed size, and of either sign -/
def wdg : Nat → Nat → Txt
  | 0, _ => []
  | f + 1, n => UInt8.ofNat (n % 256) :: wdg f (n / 256)
/-- A number as eight bytes. -/
def wide (n : Nat) : Txt := wdg 8 n
def unw : Txt → Nat
  | [] => 0
  | c :: r => c.toNat + 256 * unw r
theorem wdg_len : ∀ (f n : Nat), (wdg f n).length = f
  | 0, _ => rfl
  | f + 1, n => by unfold wdg; rw [List.length_cons, wdg_len f]
theorem wide_len (n : Nat) : (wide n).length = 8 := wdg_len 8 n
theorem unw_wdg : ∀ (f n : Nat), n < 256 ^ f → unw (wdg f n) = n
  | 0, n, h => by simp at h; subst h; rfl
  | f + 1, n, h => by
    unfold wdg unw
    rw [unw_wdg f (n / 256) (by rw [Nat.pow_succ] at h; exact (Nat.div_lt_iff_lt_mul (by omega)).2 h), byte_nat _ (by omega)]
    omega
theorem unw_wide (n : Nat) (h : n < 18446744073709551616) : unw (wide n) = n := unw_wdg 8 n (by rw [show (256 : Nat) ^ 8 = 18446744073709551616 by decide]; exact h)
theorem unw_lt : ∀ l : Txt, unw l < 256 ^ l.length
  | [] => by decide
  | c :: r => by
    have := unw_lt r
    have hc := c.toNat_lt
    unfold unw
    rw [List.length_cons, Nat.pow_succ]
    have : 256 * unw r + 256 ≤ 256 * 256 ^ r.length := by omega
    rw [Nat.mul_comm (256 ^ r.length)]
    omega
theorem wdg_unw : ∀ l : Txt, wdg l.length (unw l) = l
  | [] => rfl
  | c :: r => by
    have hc := c.toNat_lt
    unfold unw
    rw [List.length_cons]
    unfold wdg
    rw [show (c.toNat + 256 * unw r) % 256 = c.toNat by omega, show (c.toNat + 256 * unw r) / 256 = unw r by omega, wdg_unw r]
    congr 1
    exact UInt8.toNat_inj.1 (byte_nat _ hc)
theorem wide_unw (l : Txt) (h : l.length = 8) : wide (unw l) = l := by have := wdg_unw l; rw [h] at this; exact this
/-- A number without its sign, and with it again. -/
def zig (x : Int) : Nat := if 0 ≤ x then (2 * x).toNat else (-2 * x - 1).toNat
def zag (n : Nat) : Int := if n % 2 = 0 then ((n / 2 : Nat) : Int) else -((n / 2 : Nat) : Int) - 1
theorem zag_zig (x : Int) : zag (zig x) = x := by
  unfold zig
  by_cases h : 0 ≤ x
  · rw [if_pos h]; unfold zag; rw [if_pos (by omega)]; omega
  · rw [if_neg h]; unfold zag; rw [if_neg (by omega)]; omega
theorem zig_zag (n : Nat) : zig (zag n) = n := by
  unfold zag
  by_cases h : n % 2 = 0
  · rw [if_pos h]; unfold zig; rw [if_pos (by omega)]; omega
  · rw [if_neg h]; unfold zig; rw [if_neg (by omega)]; omega
theorem zig_lt {x : Int} (h : okI x) : zig x < 18446744073709551616 := by unfold okI at h; unfold zig; split <;> omega
theorem zag_ok {n : Nat} (h : n < 18446744073709551616) : okI (zag n) := by unfold zag okI; split <;> omega
/-! ### Samples as bytes -/
def okM (x : Sm) : Prop := okI x.1 ∧ 0 ≤ x.2 ∧ x.2 < 18446744073709551616
def okMs (l : List Sm) : Prop := ∀ x ∈ l, okM x
def sorted : List Sm → Bool
  | [] => true
  | [_] => true
  | x :: y :: l => decide (x.1 < y.1) && sorted (y :: l)
def wS : List Sm → Txt
  | [] => []
  | x :: l => wide (u64 x.1) ++ wide x.2.toNat ++ wS l
def sS : Int → List Sm → Txt
  | _, [] => []
  | last, x :: l => small (zig (wrap64 (x.1 - last))) ++ wide x.2.toNat ++ sS x.1 l
def times (l : List Sm) : List Int := l.map (·.1)
def vals (l : List Sm) : List Nat := l.map (·.2.toNat)
def tB (l : List Sm) : Txt := pack (bitsAll StW.s0 (times l))
def vB (l : List Sm) : Txt := pack (VaM.bitsV VaM.v0 (vals l))
/-- The bytes of samples, in a generation, ahead of their check. -/
def body (g : Int) (l : List Sm) : Txt :=
  if g = 1 then wide l.length ++ wS l
  else if g = 2 then small l.length ++ sS 0 l
  else small l.length ++ (text (tB l) ++ text (vB l))
def may (g : Int) (l : List Sm) : Bool := decide (1 ≤ g) && decide (g ≤ 3) && sorted l && decide (l.length ≤ 200)
/-- What Put hands back: the bytes, the error. -/
def putC (g : Int) (l : List Sm) : Txt × Int := if may g l = true then (body g l ++ ctail (body g l), 0) else ([], 1)
theorem wS_len : ∀ l : List Sm, (wS l).length = 16 * l.length
  | [] => rfl
  | x :: l => by unfold wS; rw [List.length_append, List.length_append, wide_len, wide_len, wS_len l, List.length_cons]; omega
theorem sS_len : ∀ (l : List Sm) (t : Int), 9 * l.length ≤ (sS t l).length ∧ (sS t l).length ≤ 18 * l.length
  | [], _ => by simp [sS]
  | x :: l, t => by
    have h := sS_len l x.1
    have h1 := sm_len 9 (zig (wrap64 (x.1 - t)))
    have h2 := sm_pos 9 (zig (wrap64 (x.1 - t)))
    unfold sS small
    rw [List.length_append, List.length_append, wide_len, List.length_cons]
    omega
/-! ### What is read -/
/-- What is left to read, and is it bad. -/
abbrev Cu := Txt × Bool
def wideC (c : Cu) : Nat × Cu := if c.2 then (0, c) else if c.1.length < 8 then (0, (c.1, true)) else (unw (c.1.take 8), (c.1.drop 8, false))
def smallC (c : Cu) : Nat × Cu := if c.2 then (0, c) else match gs 0 0 c.1 with
  | none => (0, (c.1, true))
  | some (n, k) => (n, (c.1.drop k, false))
def textC (m : Nat) (c : Cu) : Txt × Cu := if c.2 then ([], c) else match gs 0 0 c.1 with
  | none => ([], (c.1, true))
  | some (n, k) => if c.1.length - k < n ∨ m < n then ([], (c.1, true)) else ((c.1.drop k).take n, (c.1.drop (k + n), false))
def oneW (last : Int) (c : Cu) : Sm × Cu := ((wrap64 ((wideC c).1 : Int), ((wideC (wideC c).2).1 : Int)), (wideC (wideC c).2).2)
def oneS (last : Int) (c : Cu) : Sm × Cu := ((wrap64 (last + zag (smallC c).1), ((wideC (smallC c).2).1 : Int)), (wideC (smallC c).2).2)
def many (one : Int → Cu → Sm × Cu) : Nat → Int → Cu → List Sm × Cu
  | 0, _, c => ([], c)
  | n + 1, last, c => ((one last c).1 :: (many one n (one last c).1.1 (one last c).2).1, (many one n (one last c).1.1 (one last c).2).2)
def zipS (t : List Int) (v : List Nat) : List Sm := List.zipWith (fun (a : Int) (b : Nat) => (a, (b : Int))) t v
/-- The samples that bytes are, ahead of what is asked of them; what is left. -/
def getC (g : Int) (b : Txt) : List Sm × Cu :=
  if g = 1 then many oneW (min (wideC (b, false)).1 201) 0 (wideC (b, false)).2
  else if g = 2 then many oneS (min (smallC (b, false)).1 201) 0 (smallC (b, false)).2
  else
    let n := min (smallC (b, false)).1 201
    let c1 := (smallC (b, false)).2
    let t := textC 100000 c1
    let v := textC 100000 t.2
    match StW.readB (unpack t.1) n, VaM.readB (unpack v.1) n with
    | some ts, some vs => (zipS ts vs, v.2)
    | _, _ => ([], (v.2.1, true))
/-- The samples of bytes: none, where these are none; the error. -/
def readC (g : Int) (s : Txt) : List Sm × Int :=
  if ¬ (1 ≤ g ∧ g ≤ 3) then ([], 1)
  else if s.length < 4 ∨ ctail (s.take (s.length - 4)) ≠ s.drop (s.length - 4) then ([], 9)
  else
    let x := getC g (s.take (s.length - 4))
    if x.2.2 = true ∨ x.2.1 ≠ [] ∨ 200 < x.1.length ∨ sorted x.1 = false then ([], 9) else (x.1, 0)
/-! ### What is put is got -/
theorem wideC_put (n : Nat) (r : Txt) (h : n < 18446744073709551616) : wideC (wide n ++ r, false) = (n, (r, false)) := by
  unfold wideC
  have hl := wide_len n
  rw [if_neg (by simp), if_neg (by simp only [List.length_append]; omega)]
  have h1 : (wide n ++ r).take 8 = wide n := by rw [← hl]; exact List.take_left
  have h2 : (wide n ++ r).drop 8 = r := by rw [← hl]; exact List.drop_left
  simp only [h1, h2, unw_wide n h]
theorem smallC_put (n : Nat) (r : Txt) (h : n < 18446744073709551616) : smallC (small n ++ r, false) = (n, (r, false)) := by
  unfold smallC
  rw [if_neg (by simp)]
  simp only []
  rw [gs_small n r h]
  simp only [List.drop_left]
theorem textC_put (m : Nat) (b r : Txt) (h : b.length ≤ m) (hm : m ≤ 1000000) : textC m (text b ++ r, false) = (b, (r, false)) := by
  unfold textC text
  rw [if_neg (by simp)]
  simp only [List.append_assoc]
  rw [gs_small _ _ (by omega)]
  have e1 : (small b.length ++ (b ++ r)).drop (small b.length).length = b ++ r := List.drop_left
  have e2 : (small b.length ++ (b ++ r)).drop ((small b.length).length + b.length) = r := by rw [← List.drop_drop, e1, List.drop_left]
  have e3 : (small b.length ++ (b ++ r)).length - (small b.length).length = b.length + r.length := by simp
  simp only [e1, e2, e3]
  rw [if_neg (by omega), List.take_left]
theorem wrap_back {a b : Int} (h : okI b) : wrap64 (a + wrap64 (b - a)) = b := by
  rw [wrap_addR, show a + (b - a) = b by omega, wrap_ok h]
theorem val_back {x : Int} (h : 0 ≤ x) : ((x.toNat : Nat) : Int) = x := by omega
theorem many_W : ∀ (l : List Sm) (t : Int) (r : Txt), okMs l → many oneW l.length t (wS l ++ r, false) = (l, (r, false))
  | [], _, _, _ => rfl
  | x :: l, t, r, h => by
    have hx := h x List.mem_cons_self
    have hr := fun t => many_W l t r (fun y hy => h y (List.mem_cons_of_mem _ hy))
    have e : oneW t (wS (x :: l) ++ r, false) = (x, (wS l ++ r, false)) := by
      rw [show wS (x :: l) = wide (u64 x.1) ++ wide x.2.toNat ++ wS l from rfl]
      unfold oneW
      rw [List.append_assoc, List.append_assoc, wideC_put _ _ (u64_lt _)]
      simp only []
      rw [wideC_put _ _ (by have := hx.2; omega)]
      simp only []
      rw [wrap_u64 hx.1, val_back hx.2.1]
    rw [List.length_cons]
    unfold many
    rw [e]
    simp only []
    rw [hr]
theorem many_S : ∀ (l : List Sm) (t : Int) (r : Txt), okMs l → many oneS l.length t (sS t l ++ r, false) = (l, (r, false))
  | [], _, _, _ => rfl
  | x :: l, t, r, h => by
    have hx := h x List.mem_cons_self
    have hr := fun t => many_S l t r (fun y hy => h y (List.mem_cons_of_mem _ hy))
    have e : oneS t (sS t (x :: l) ++ r, false) = (x, (sS x.1 l ++ r, false)) := by
      rw [show sS t (x :: l) = small (zig (wrap64 (x.1 - t))) ++ wide x.2.toNat ++ sS x.1 l from rfl]
      unfold oneS
      rw [List.append_assoc, List.append_assoc, smallC_put _ _ (zig_lt (okI_wrap _))]
      simp only []
      rw [wideC_put _ _ (by have := hx.2; omega)]
      simp only []
      rw [zag_zig, wrap_back hx.1, val_back hx.2.1]
    rw [List.length_cons]
    unfold many
    rw [e]
    simp only []
    rw [hr]
theorem zip_back : ∀ l : List Sm, okMs l → zipS (times l) (vals l) = l
  | [], _ => rfl
  | x :: l, h => by
    have hx := h x List.mem_cons_self
    have := zip_back l (fun y hy => h y (List.mem_cons_of_mem _ hy))
    unfold zipS times vals at this ⊢
    rw [List.map_cons, List.map_cons, List.zipWith_cons_cons, this, val_back hx.2.1]
theorem pack_le (b : List Bool) : (pack b).length ≤ b.length / 8 + 1 := by rw [pack_length]; omega
theorem times_ok {l : List Sm} (h : okMs l) : ∀ t ∈ times l, okI t := by
  intro t ht
  obtain ⟨x, hx, rfl⟩ := List.mem_map.1 ht
  exact (h x hx).1
theorem vals_ok {l : List Sm} (h : okMs l) : ∀ t ∈ vals l, VaM.okU t := by
  intro t ht
  obtain ⟨x, hx, rfl⟩ := List.mem_map.1 ht
  have := (h x hx).2
  show x.2.toNat < _
  omega
/-- The bytes ahead of the check are read as what they are of. -/
theorem get_body (g : Int) (hg : 1 ≤ g ∧ g ≤ 3) (l : List Sm) (h : okMs l) (hl : l.length ≤ 200) : getC g (body g l) = (l, ([], false)) := by
  unfold getC body
  by_cases h1 : g = 1
  · rw [if_pos h1, if_pos h1, wideC_put _ _ (by omega)]
    simp only []
    rw [Nat.min_eq_left (by omega)]
    have := many_W l 0 [] h
    rw [List.append_nil] at this
    exact this
  rw [if_neg h1, if_neg h1]
  by_cases h2 : g = 2
  · rw [if_pos h2, if_pos h2, smallC_put _ _ (by omega)]
    simp only []
    rw [Nat.min_eq_left (by omega)]
    have := many_S l 0 [] h
    rw [List.append_nil] at this
    exact this
  rw [if_neg h2, if_neg h2, smallC_put _ _ (by omega)]
  simp only []
  rw [Nat.min_eq_left (by omega)]
  have ht := bitsAll_len StW.s0 (times l)
  have hv := VaM.bitsV_len VaM.v0 (vals l)
  have htl : (times l).length = l.length := List.length_map ..
  have hvl : (vals l).length = l.length := List.length_map ..
  have hp1 := pack_le (bitsAll StW.s0 (times l))
  have hp2 := pack_le (VaM.bitsV VaM.v0 (vals l))
  rw [textC_put 100000 (tB l) (text (vB l)) (by unfold tB; omega) (by omega)]
  simp only []
  have e2 := textC_put 100000 (vB l) [] (by unfold vB; omega) (by omega)
  rw [List.append_nil] at e2
  rw [e2]
  simp only []
  have r1 := StW.read_back (times l) (times_ok h) (by omega)
  have r2 := VaM.read_back (vals l) (vals_ok h) (by omega)
  rw [htl] at r1
  rw [hvl] at r2
  unfold tB vB
  rw [r1, r2]
  simp only []
  rw [zip_back l h]
/-! ### Nothing else is got -/
theorem wideC_is {c : Cu} (h : (wideC c).2.2 = false) : c.2 = false ∧ c.1 = wide (wideC c).1 ++ (wideC c).2.1 ∧ (wideC c).1 < 18446744073709551616 := by
  unfold wideC at h ⊢
  cases hb : c.2 with
  | true => rw [hb, if_pos rfl] at h; rw [hb] at h; cases h
  | false =>
    rw [hb, if_neg (by simp)] at h
    rw [if_neg (by simp)]
    by_cases h8 : c.1.length < 8
    · rw [if_pos h8] at h; cases h
    · rw [if_neg h8]
      have hl : (c.1.take 8).length = 8 := by rw [List.length_take]; omega
      refine ⟨rfl, ?_, ?_⟩
      · show c.1 = wide (unw (c.1.take 8)) ++ c.1.drop 8
        rw [wide_unw _ hl, List.take_append_drop]
      · have := unw_lt (c.1.take 8)
        rw [hl, show (256 : Nat) ^ 8 = 18446744073709551616 by decide] at this
        exact this
theorem smallC_is {c : Cu} (h : (smallC c).2.2 = false) : c.2 = false ∧ c.1 = small (smallC c).1 ++ (smallC c).2.1 ∧ (smallC c).1 < 18446744073709551616 := by
  unfold smallC at h ⊢
  cases hb : c.2 with
  | true => rw [hb, if_pos rfl] at h; rw [hb] at h; cases h
  | false =>
    rw [hb, if_neg (by simp)] at h
    rw [if_neg (by simp)]
    cases hg : gs 0 0 c.1 with
    | none => rw [hg] at h; cases h
    | some p =>
      obtain ⟨n, k⟩ := p
      obtain ⟨g1, g2, g3⟩ := gs_is hg
      exact ⟨rfl, g3, g1⟩
theorem textC_is {m : Nat} {c : Cu} (h : (textC m c).2.2 = false) : c.2 = false ∧ c.1 = text (textC m c).1 ++ (textC m c).2.1 := by
  unfold textC at h ⊢
  cases hb : c.2 with
  | true => rw [hb, if_pos rfl] at h; rw [hb] at h; cases h
  | false =>
    rw [hb, if_neg (by simp)] at h
    rw [if_neg (by simp)]
    cases hg : gs 0 0 c.1 with
    | none => rw [hg] at h; cases h
    | some p =>
      obtain ⟨n, k⟩ := p
      obtain ⟨g1, g2, g3⟩ := gs_is hg
      rw [hg] at h
      simp only [] at h ⊢
      by_cases hc : c.1.length - k < n ∨ m < n
      · rw [if_pos hc] at h; cases h
      · rw [if_neg hc]
        refine ⟨by first | rfl | trivial, ?_⟩
        have hl : ((c.1.drop k).take n).length = n := by rw [List.length_take, List.length_drop]; omega
        show c.1 = text ((c.1.drop k).take n) ++ c.1.drop (k + n)
        unfold text
        rw [hl, List.append_assoc, ← List.drop_drop, List.take_append_drop]
        exact g3
theorem oneW_is {t : Int} {c : Cu} (h : (oneW t c).2.2 = false) : c.2 = false ∧ c.1 = wide (u64 (oneW t c).1.1) ++ wide (oneW t c).1.2.toNat ++ (oneW t c).2.1 ∧ okM (oneW t c).1 := by
  unfold oneW at h ⊢
  obtain ⟨a1, a2, a3⟩ := wideC_is h
  obtain ⟨b1, b2, b3⟩ := wideC_is a1
  refine ⟨b1, ?_, ?_⟩
  · simp only []
    rw [u64_wrap b3, Int.toNat_natCast, List.append_assoc, ← a2]
    exact b2
  · exact ⟨okI_wrap _, by show (0 : Int) ≤ ((wideC (wideC c).2).1 : Int); omega, by show ((wideC (wideC c).2).1 : Int) < 18446744073709551616; omega⟩
theorem zag_wrap {t : Int} {n : Nat} (h : n < 18446744073709551616) : zig (wrap64 (wrap64 (t + zag n) - t)) = n := by
  rw [wrap_subL, show t + zag n - t = zag n by omega, wrap_ok (zag_ok h), zig_zag]
theorem oneS_is {t : Int} {c : Cu} (h : (oneS t c).2.2 = false) : c.2 = false ∧ c.1 = small (zig (wrap64 ((oneS t c).1.1 - t))) ++ wide (oneS t c).1.2.toNat ++ (oneS t c).2.1 ∧ okM (oneS t c).1 := by
  unfold oneS at h ⊢
  obtain ⟨a1, a2, a3⟩ := wideC_is h
  obtain ⟨b1, b2, b3⟩ := smallC_is a1
  refine ⟨b1, ?_, ?_⟩
  · simp only []
    rw [zag_wrap b3, Int.toNat_natCast, List.append_assoc, ← a2]
    exact b2
  · exact ⟨okI_wrap _, by show (0 : Int) ≤ ((wideC (smallC c).2).1 : Int); omega, by show ((wideC (smallC c).2).1 : Int) < 18446744073709551616; omega⟩
theorem many_len (one : Int → Cu → Sm × Cu) : ∀ (n : Nat) (t : Int) (c : Cu), (many one n t c).1.length = n
  | 0, _, _ => rfl
  | n + 1, t, c => by unfold many; rw [List.length_cons, many_len one n]
theorem many_W_is : ∀ (n : Nat) (t : Int) (c : Cu), (many oneW n t c).2.2 = false → c.2 = false ∧ c.1 = wS (many oneW n t c).1 ++ (many oneW n t c).2.1 ∧ okMs (many oneW n t c).1
  | 0, _, c, h => ⟨h, rfl, fun x hx => by cases hx⟩
  | n + 1, t, c, h => by
    unfold many at h ⊢
    obtain ⟨a1, a2, a3⟩ := many_W_is n _ _ h
    obtain ⟨b1, b2, b3⟩ := oneW_is a1
    refine ⟨b1, ?_, fun x hx => ?_⟩
    · simp only []
      rw [show ∀ (x : Sm) (l : List Sm), wS (x :: l) = wide (u64 x.1) ++ wide x.2.toNat ++ wS l from fun _ _ => rfl, List.append_assoc, ← a2]
      exact b2
    · rcases List.mem_cons.1 hx with rfl | hx
      · exact b3
      · exact a3 x hx
theorem many_S_is : ∀ (n : Nat) (t : Int) (c : Cu), (many oneS n t c).2.2 = false → c.2 = false ∧ c.1 = sS t (many oneS n t c).1 ++ (many oneS n t c).2.1 ∧ okMs (many oneS n t c).1
  | 0, _, c, h => ⟨h, rfl, fun x hx => by cases hx⟩
  | n + 1, t, c, h => by
    unfold many at h ⊢
    obtain ⟨a1, a2, a3⟩ := many_S_is n _ _ h
    obtain ⟨b1, b2, b3⟩ := oneS_is a1
    refine ⟨b1, ?_, fun x hx => ?_⟩
    · simp only []
      rw [show ∀ (x : Sm) (l : List Sm), sS t (x :: l) = small (zig (wrap64 (x.1 - t))) ++ wide x.2.toNat ++ sS x.1 l from fun _ _ => rfl, List.append_assoc, ← a2]
      exact b2
    · rcases List.mem_cons.1 hx with rfl | hx
      · exact b3
      · exact a3 x hx
theorem zip_parts : ∀ (t : List Int) (v : List Nat), t.length = v.length → times (zipS t v) = t ∧ vals (zipS t v) = v ∧ (zipS t v).length = t.length
  | [], [], _ => ⟨rfl, rfl, rfl⟩
  | [], _ :: _, h => by simp at h
  | _ :: _, [], h => by simp at h
  | a :: t, b :: v, h => by
    obtain ⟨h1, h2, h3⟩ := zip_parts t v (by simpa using h)
    simp only [zipS, times, vals] at h1 h2 h3 ⊢
    rw [List.zipWith_cons_cons, List.map_cons, List.map_cons, h1, h2, List.length_cons, h3]
    exact ⟨rfl, by rw [Int.toNat_natCast], rfl⟩
theorem zip_ok {t : List Int} {v : List Nat} (ht : ∀ x ∈ t, okI x) (hv : ∀ x ∈ v, VaM.okU x) : okMs (zipS t v) := by
  intro x hx
  unfold zipS at hx
  obtain ⟨i, hi⟩ := List.getElem?_of_mem hx
  rw [List.getElem?_zipWith] at hi
  cases h1 : t[i]? with
  | none => rw [h1] at hi; simp at hi
  | some a =>
    cases h2 : v[i]? with
    | none => rw [h1, h2] at hi; simp at hi
    | some b =>
      rw [h1, h2] at hi
      injection hi with hi
      subst hi
      have hb : b < 18446744073709551616 := hv b (List.mem_of_getElem? h2)
      exact ⟨ht a (List.mem_of_getElem? h1), by show (0 : Int) ≤ (b : Int); omega, by show (b : Int) < _; omega⟩
/-- What is read to its end, and not bad, is of just these bytes. -/
theorem get_only (g : Int) (b : Txt) (l : List Sm) (h : getC g b = (l, ([], false))) (hl : l.length ≤ 200) : body g l = b ∧ okMs l := by
  unfold getC at h
  unfold body
  by_cases h1 : g = 1
  · rw [if_pos h1] at h ⊢
    have hn := many_len oneW (min (wideC (b, false)).1 201) 0 (wideC (b, false)).2
    have hi := many_W_is (min (wideC (b, false)).1 201) 0 (wideC (b, false)).2 (by rw [h])
    rw [h] at hn hi
    simp only [] at hn hi
    obtain ⟨i1, i2, i3⟩ := hi
    obtain ⟨j1, j2, j3⟩ := wideC_is i1
    have hm : (wideC (b, false)).1 = l.length := by omega
    refine ⟨?_, i3⟩
    rw [← hm]
    rw [List.append_nil] at i2
    rw [← i2]
    exact j2.symm
  rw [if_neg h1] at h ⊢
  by_cases h2 : g = 2
  · rw [if_pos h2] at h ⊢
    have hn := many_len oneS (min (smallC (b, false)).1 201) 0 (smallC (b, false)).2
    have hi := many_S_is (min (smallC (b, false)).1 201) 0 (smallC (b, false)).2 (by rw [h])
    rw [h] at hn hi
    simp only [] at hn hi
    obtain ⟨i1, i2, i3⟩ := hi
    obtain ⟨j1, j2, j3⟩ := smallC_is i1
    have hm : (smallC (b, false)).1 = l.length := by omega
    refine ⟨?_, i3⟩
    rw [← hm]
    rw [List.append_nil] at i2
    rw [← i2]
    exact j2.symm
  rw [if_neg h2] at h ⊢
  simp only [] at h
  cases ht : StW.readB (unpack (textC 100000 (smallC (b, false)).2).1) ((min (smallC (b, false)).1 201 : Nat) : Int) with
  | none => rw [ht] at h; simp at h
  | some ts =>
    cases hv : VaM.readB (unpack (textC 100000 (textC 100000 (smallC (b, false)).2).2).1) ((min (smallC (b, false)).1 201 : Nat) : Int) with
    | none => rw [ht, hv] at h; simp at h
    | some vs =>
      rw [ht, hv] at h
      simp only [Prod.mk.injEq] at h
      obtain ⟨e1, e2⟩ := h
      have k1 := textC_is (by rw [e2] : (textC 100000 (textC 100000 (smallC (b, false)).2).2).2.2 = false)
      have k2 := textC_is k1.1
      obtain ⟨j1, j2, j3⟩ := smallC_is k2.1
      obtain ⟨t1, t2, t3, t4⟩ := StW.read_only ⟨(textC 100000 (smallC (b, false)).2).1.toArray⟩ _ ts (by exact ht)
      obtain ⟨v1, v2, v3, v4⟩ := VaM.read_only ⟨(textC 100000 (textC 100000 (smallC (b, false)).2).2).1.toArray⟩ _ vs (by exact hv)
      obtain ⟨z1, z2, z3⟩ := zip_parts ts vs (by omega)
      have hm : (smallC (b, false)).1 = l.length := by rw [← e1, z3] at hl ⊢; omega
      have t5 : pack (bitsAll StW.s0 ts) = (textC 100000 (smallC (b, false)).2).1 := congrArg (fun x : ByteArray => x.data.toList) t1
      have v5 : pack (VaM.bitsV VaM.v0 vs) = (textC 100000 (textC 100000 (smallC (b, false)).2).2).1 := congrArg (fun x : ByteArray => x.data.toList) v1
      refine ⟨?_, by rw [← e1]; exact zip_ok t3 v3⟩
      unfold tB vB
      rw [← hm, ← e1, z1, z2, t5, v5]
      have k3 := k1.2
      rw [e2, List.append_nil] at k3
      rw [← k3, ← k2.2]
      exact j2.symm
end Go.Proofs.YtdidengokijcjaaDoor.ChM
