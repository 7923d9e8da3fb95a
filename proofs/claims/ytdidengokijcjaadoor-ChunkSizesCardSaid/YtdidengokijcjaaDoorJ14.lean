/-
  label.masks, label.all, label.Check: THE WALKS.
  label.Check: THE WALK.
  match.pick AT LABELS, MATCHERS, SAMPLES: by whatever function value tells.
  strings.HasPrefix, match.Fits: THE WALKS.
  match.All, alluviumref07.Fits, alluviumref07.All: THE WALKS.
  match.right, match.Check: THE WALKS.
  alluviumref06.Name, Value, Ahead: THE WALKS.
  alluviumref07.Right, AllRight, All: THE WALKS.
  match.Between, Without, Sorted: THE WALKS.
  EQUALITY OF STRUCTS OF ONE-CELL FIELDS, AS RUN EQUATIONS.
  alluviumref07.Between, Same, Row: THE WALKS.
  THE SHELF LAYINGS OF math/bits AT THIS PROGRAM, IN PLAIN WORDS: written by lay-plain.
-/
import Derived.Test.YtdidengokijcjaaDoorJ13
import Derived.WalkSpells
import Derived.WalkLawsBesides
import Derived.Handy
import Derived.Deep.DeepCutAuto
import Derived.Laws.BitsAllLaws
import Derived.WalkMore
import Derived.Deep.LoopGhost
import Derived.Maps.AppendAt
import Derived.Deep.Onto
import Derived.Test.YtdidengokijcjaaDoorRows
import Derived.Test.YtdidengokijcjaaDoorJ06
import Derived.Laws.StructEq
import Derived.Shelf.Small.Bits
import Derived.Shelf.Strconv.Itoa0
import Derived.Shelf.Spec.TrailingZeros
import Derived.Ground.Names2Prog
import Derived.Ground.Names7Prog
/-
  label.masks, label.all, label.Check: THE WALKS.
-/
namespace Go.Proofs.YtdidengokijcjaaDoor.LabW
open Go.RowKit Go.Shelf LabM
/-- The table as a row of cells. -/
def Tb (f : Nat → Nat) (cs : Array Value) : Prop := cs.size = 256 ∧ ∀ i, i < 256 → cs[i]? = some (.int .u8 (f i : Int))
theorem Tb.set {f g : Nat → Nat} {cs : Array Value} (h : Tb f cs) {k x : Nat} (hg : ∀ i, g i = if i = k then x else f i) {v : Value} (hv : v = .int .u8 (x : Int)) : Tb g (cs.setIfInBounds k v) := by
  refine ⟨by simp [h.1], fun i hi => ?_⟩
  rw [hg]
  by_cases e : i = k
  · subst e; rw [Array.getElem?_setIfInBounds_self_of_lt (by rw [h.1]; omega), hv, if_pos rfl]
  · rw [Array.getElem?_setIfInBounds_ne (by omega), if_neg e]; exact h.2 i hi
theorem Tb.congr {f g : Nat → Nat} {cs : Array Value} (h : Tb f cs) (e : ∀ i, f i = g i) : Tb g cs := ⟨h.1, fun i hi => by rw [← e]; exact h.2 i hi⟩
theorem Tb.one {f : Nat → Nat} {cs : Array Value} (h : Tb f cs) : cs.all (·.oneCell') = true := by
  rw [Array.all_eq_true]
  intro i hi
  have := h.2 i (by have := h.1; omega)
  rw [Array.getElem?_eq_getElem hi] at this
  rw [Option.some.inj this]; rfl
theorem or04 : bits BinOp.or IntKind.u8 0 4 = 4 := u8_or_nat 0 4 (by decide) (by decide)
theorem or42 : bits BinOp.or IntKind.u8 4 2 = 6 := u8_or_nat 4 2 (by decide) (by decide)
theorem or43 : bits BinOp.or IntKind.u8 4 3 = 7 := u8_or_nat 4 3 (by decide) (by decide)
/-- The cells of an array of 256 bytes, before anything is written (a seat whose translation lies in one part names none). -/
def zeroCells256 : Array Value := Array.replicate 256 (.int .u8 0)
theorem zero256 : Tb (fun _ => 0) zeroCells256 := by
  unfold zeroCells256
  exact ⟨by simp, fun i hi => by simp [hi]⟩
theorem zeroCells256_size : zeroCells256.size = 256 := zero256.1
theorem zeroCells256_ne : ¬ zeroCells256 = #[] := fun h => by
  have := zeroCells256_size
  rw [h] at this
  exact absurd this (by decide)
attribute [local simp] zeroCells256_ne zeroCells256_size
/-- A byte's mask. -/
theorem take_snocU (s : ByteArray) (k : Nat) (h : k < s.size) : s.data.toList.take (k + 1) = s.data.toList.take k ++ [s[k]] := by
  have hl : k < s.data.toList.length := by simpa using h
  rw [List.take_add_one, List.getElem?_eq_getElem hl]
  simp [ByteArray.getElem_eq_getElem_data]
theorem toList_data (s : ByteArray) : s.toList = s.data.toList := by
  exact ByteArray.toList_eq s
theorem mask_lt (c : Nat) : maskN c < 8 := by unfold maskN; repeat' split
                                              all_goals omega
end Go.Proofs.YtdidengokijcjaaDoor.LabW
/-
  label.Check: THE WALK.
-/
namespace Go.Proofs.YtdidengokijcjaaDoor.LabW
open Go.RowKit Go.Shelf LabM
theorem bytesLess_ltB (a b : Txt) : Op.bytesLess a b = ltB a b := by
  induction a generalizing b with
  | nil => cases b <;> rfl
  | cons x a ih =>
    cases b with
    | nil => rfl
    | cons y b =>
      unfold Op.bytesLess ltB
      rw [ih]
      by_cases h : x = y
      · subst h; simp
      · rw [if_neg h]
        have : (x == y) = false := by simpa using h
        rw [this, Bool.false_and, Bool.or_false, decide_eq_decide]
        exact UInt8.lt_iff_toNat_lt
theorem gt_yes {a b : ByteArray} (h : Op.bytesLess a.toList b.toList = false ∧ ¬ a.toList = b.toList) : ltB b.data.toList a.data.toList = true := by
  rw [← ltB_tri, ← toList_data, ← toList_data, ← bytesLess_ltB, h.1]
  simpa using h.2
theorem gt_no {a b : ByteArray} (h : ¬ (Op.bytesLess a.toList b.toList = false ∧ ¬ a.toList = b.toList)) : ltB b.data.toList a.data.toList = false := by
  cases e : ltB b.data.toList a.data.toList with
  | false => rfl
  | true =>
    rw [← ltB_tri, ← toList_data, ← toList_data, ← bytesLess_ltB] at e
    simp at e
    exact absurd e h
theorem allM_pos {s : ByteArray} {m : Nat} (h : allM s.data.toList m = true) : 1 ≤ s.size := by
  unfold allM at h
  simp only [Bool.and_eq_true] at h
  have h1 := h.1.2
  have h2 : s.data.toList.length = s.size := by simp
  cases e : s.data.toList with
  | nil => rw [e] at h1; cases h1
  | cons a t => rw [e] at h2; simp at h2; omega
theorem name_split (s : Txt) : nameB s = (allM s 2 && allM (s.take 1) 1) := (name_of_masks s).symm
theorem chk_no {l : List Lab} (h : chkL [] l = false) : checkB l = false := by unfold checkB; rw [h]; rfl
end Go.Proofs.YtdidengokijcjaaDoor.LabW
/-
  match.pick AT LABELS, MATCHERS, SAMPLES: by whatever function value tells.
-/
namespace Go.Proofs.YtdidengokijcjaaDoor.LabW
open Go.RowKit Go.Shelf LabM
/-- A matcher: its kind, its name, its value. -/
abbrev Mat := Int × ByteArray × ByteArray
def encM (x : Mat) : List Value := [.int .i64 x.1, .string x.2.1, .string x.2.2]
def okM (x : Mat) : Prop := -9223372036854775808 ≤ x.1 ∧ x.1 ≤ 9223372036854775807 ∧ x.2.1.size ≤ maxLen ∧ x.2.2.size ≤ maxLen
/-- A sample: its time, its value. -/
abbrev Sam := Int × Int
def encS (x : Sam) : List Value := [.int .i64 x.1, .int .u64 x.2]
def okS (x : Sam) : Prop := -9223372036854775808 ≤ x.1 ∧ x.1 ≤ 9223372036854775807 ∧ 0 ≤ x.2 ∧ x.2 < 18446744073709551616
theorem take_filter {α : Type} (p : α → Bool) (l : List α) (k : Nat) (h : k < l.length) : (l.take (k + 1)).filter p = (l.take k).filter p ++ if p l[k] then [l[k]] else [] := by
  rw [take_snocL l k h, List.filter_append]
  congr 1
  cases hp : p l[k] <;> simp [hp]
theorem M_cells {w : World} {A : Option Addr} {l : List Mat} (h : Lies w w.heap.size 3 encM A l) {k : Nat} (hk : k < l.length) :
    ∃ b o, A = some ⟨b, o, none⟩ ∧ ∀ W, Below w.heap.size w W → W.cell? ⟨b, o + k * 3, none⟩ = some (.int .i64 l[k].1) ∧ W.cell? ⟨b, o + k * 3 + 1, none⟩ = some (.string l[k].2.1) ∧ W.cell? ⟨b, o + k * 3 + 2, none⟩ = some (.string l[k].2.2) := by
  obtain ⟨b, o, hA, _, hc⟩ := h.all hk
  exact ⟨b, o, hA, fun W hW => ⟨hc W hW 0 _ rfl, hc W hW 1 _ rfl, hc W hW 2 _ rfl⟩⟩
theorem one3 {v x y : Value} (h : v.oneCell' = true) (k : x.oneCell' = true) (m : y.oneCell' = true) : ∀ u ∈ (#[v, x, y] : Array Value).toList, u.oneCell' = true := by
  intro u hu; simp at hu; rcases hu with hu | hu | hu <;> rw [hu] <;> assumption
theorem S_cells {w : World} {A : Option Addr} {l : List Sam} (h : Lies w w.heap.size 2 encS A l) {k : Nat} (hk : k < l.length) :
    ∃ b o, A = some ⟨b, o, none⟩ ∧ ∀ W, Below w.heap.size w W → W.cell? ⟨b, o + k * 2, none⟩ = some (.int .i64 l[k].1) ∧ W.cell? ⟨b, o + k * 2 + 1, none⟩ = some (.int .u64 l[k].2) := by
  obtain ⟨b, o, hA, _, hc⟩ := h.all hk
  exact ⟨b, o, hA, fun W hW => ⟨hc W hW 0 _ rfl, hc W hW 1 _ rfl⟩⟩
theorem elemS : Elem Tryd.prog 37 (.agg #[.int .i64 0, .int .u64 0]) 2 16 := by unfold Elem; kernel_rfl
end Go.Proofs.YtdidengokijcjaaDoor.LabW
/-
  strings.HasPrefix, match.Fits: THE WALKS.
-/
namespace Go.Proofs.YtdidengokijcjaaDoor.LabW
open Go.RowKit Go.Shelf LabM
/-- Does it begin with it? -/
def prefB (v p : ByteArray) : Bool := decide (p.size ≤ v.size) && ((v.extract 0 p.size).toList == p.toList)
def thereB (l : List Lab) (nm : ByteArray) : Bool := l.any fun x => x.1.toList == nm.toList
/-- Does a matcher fit labels? -/
def fitsB (m : Mat) (l : List Lab) : Bool :=
  if m.1 = 0 then (getL l m.2.1).toList == m.2.2.toList
  else if m.1 = 1 then (getL l m.2.1).toList != m.2.2.toList
  else if m.1 = 2 then prefB (getL l m.2.1) m.2.2
  else if m.1 = 3 then thereB l m.2.1
  else false
theorem fitsB_0 (nm vl : ByteArray) (l : List Lab) : fitsB (0, nm, vl) l = ((getL l nm).toList == vl.toList) := rfl
theorem fitsB_1 (nm vl : ByteArray) (l : List Lab) : fitsB (1, nm, vl) l = !((getL l nm).toList == vl.toList) := rfl
theorem fitsB_2 (nm vl : ByteArray) (l : List Lab) : fitsB (2, nm, vl) l = prefB (getL l nm) vl := rfl
theorem fitsB_3 (nm vl : ByteArray) (l : List Lab) : fitsB (3, nm, vl) l = thereB l nm := rfl
theorem fitsB_no (kd : Int) (nm vl : ByteArray) (l : List Lab) (h0 : ¬ kd = 0) (h1 : ¬ kd = 1) (h2 : ¬ kd = 2) (h3 : ¬ kd = 3) : fitsB (kd, nm, vl) l = false := by
  unfold fitsB
  simp only [if_neg h0, if_neg h1, if_neg h2, if_neg h3]
theorem len_filter_pos {α : Type} (p : α → Bool) (l : List α) : decide (0 < (l.filter p).length) = l.any p := by
  induction l with
  | nil => rfl
  | cons x l ih =>
    by_cases h : p x = true
    · simp [h]
    · have h' : p x = false := by simpa using h
      simp only [List.filter_cons, h', List.any_cons, Bool.false_or]
      exact ih
theorem getL_size (l : List Lab) (nm : ByteArray) (h : ∀ x ∈ l, okL x) : (getL l nm).size ≤ maxLen := by
  induction l with
  | nil => exact Nat.zero_le _
  | cons x l ih =>
    unfold getL
    split
    · exact (h x (by simp)).2
    · exact ih (fun y hy => h y (by simp [hy]))
end Go.Proofs.YtdidengokijcjaaDoor.LabW
/-
  match.All, alluviumref07.Fits, alluviumref07.All: THE WALKS.
-/
namespace Go.Proofs.YtdidengokijcjaaDoor.LabW
open Go.RowKit Go.Shelf LabM
def allB (ms : List Mat) (l : List Lab) : Bool := ms.all fun m => fitsB m l
theorem filter_all {α : Type} (p : α → Bool) (l : List α) : decide ((l.filter p).length = l.length) = l.all p := by
  rw [Bool.eq_iff_iff, decide_eq_true_iff, List.all_eq_true, List.length_filter_eq_length_iff]
end Go.Proofs.YtdidengokijcjaaDoor.LabW
/-
  match.right, match.Check: THE WALKS.
-/
namespace Go.Proofs.YtdidengokijcjaaDoor.LabW
open Go.RowKit Go.Shelf LabM
/-- May a matcher be? -/
def rightB (m : Mat) : Bool := decide (0 ≤ m.1) && decide (m.1 ≤ 3) && nameB m.2.1.data.toList && (m.2.2.data.toList.isEmpty || decide (m.1 < 3) && valueB m.2.2.data.toList)
def checkMB (ms : List Mat) : Bool := ms.all rightB && decide (ms.length ≤ 8)
theorem checkB_one (nm vl : ByteArray) : checkB [(nm, vl)] = (nameB nm.data.toList && valueB vl.data.toList) := by
  unfold checkB chkL chkL
  have e : nameB nm.data.toList = true → ltB [] nm.data.toList = true := by
    intro h
    cases hh : nm.data.toList with
    | nil => rw [hh] at h; cases h
    | cons a t => rfl
  cases hn : nameB nm.data.toList
  · simp
  · rw [e hn]; simp
theorem dash_le : (⟨#[45]⟩ : ByteArray).size ≤ maxLen := by decide
theorem dash_ok : valueB (⟨#[45]⟩ : ByteArray).data.toList = true := by decide
theorem ne_list {s : ByteArray} (h : ¬ s.toList = []) : s.data.toList.isEmpty = false := by
  rw [← toList_data]
  cases e : s.toList with
  | nil => exact absurd e h
  | cons => rfl
theorem em_list {s : ByteArray} (h : s.toList = []) : s.data.toList.isEmpty = true := by rw [← toList_data, h]; rfl
theorem check_filter {α : Type} (p : α → Bool) (l : List α) : decide ((l.filter p).length < l.length) = !l.all p := by
  have h := filter_all p l
  have hle := List.length_filter_le p l
  rw [← h, Bool.eq_iff_iff]
  simp only [decide_eq_true_eq, Bool.not_eq_true', decide_eq_false_iff_not]
  omega
end Go.Proofs.YtdidengokijcjaaDoor.LabW
/-
  alluviumref06.Name, Value, Ahead: THE WALKS.
-/
namespace Go.Proofs.YtdidengokijcjaaDoor.LabW
open Go.RowKit Go.Shelf LabM
theorem mem_byte (s : ByteArray) (k : Nat) (h : k < s.size) : s[k] ∈ s.data.toList := by
  rw [ByteArray.getElem_eq_getElem_data]; simp
theorem len_bytes (s : ByteArray) : s.data.toList.length = s.size := by simp
def nmB (c : UInt8) : Bool := lowB c || digitB c
theorem byte_cases (c : UInt8) : ((c.toNat : Int) < 48 ∧ nmB c = false) ∨ ((48 ≤ (c.toNat : Int) ∧ (c.toNat : Int) ≤ 57) ∧ nmB c = true) ∨ ((58 ≤ (c.toNat : Int) ∧ (c.toNat : Int) ≤ 94) ∧ nmB c = false) ∨ ((c.toNat : Int) = 95 ∧ nmB c = true) ∨ ((c.toNat : Int) = 96 ∧ nmB c = false) ∨
    ((97 ≤ (c.toNat : Int) ∧ (c.toNat : Int) ≤ 122) ∧ nmB c = true) ∨ (123 ≤ (c.toNat : Int) ∧ nmB c = false) := by
  have h : nmB c = decide (((97 ≤ c.toNat ∧ c.toNat ≤ 122) ∨ c.toNat = 95) ∨ (48 ≤ c.toNat ∧ c.toNat ≤ 57)) := by
    unfold nmB lowB digitB
    simp only [Bool.decide_or, Bool.decide_and]
  rw [h]
  simp only [decide_eq_true_eq, decide_eq_false_iff_not]
  omega
theorem nameB_loop (s : ByteArray) (h0 : s.data.toList.isEmpty = false) (h48 : s.size ≤ 48) (hd : (s.data.toList.take 1).all digitB = false) : nameB s.data.toList = s.data.toList.all nmB := by
  unfold nameB
  rw [hd, h0, len_bytes, decide_eq_true h48]
  simp only [Bool.not_false, Bool.and_true]
  rfl
theorem shown_cases (c : UInt8) : ((c.toNat : Int) < 32 ∧ shownB c = false) ∨ ((32 ≤ (c.toNat : Int) ∧ (c.toNat : Int) ≤ 126) ∧ shownB c = true) ∨ ((32 ≤ (c.toNat : Int) ∧ 126 < (c.toNat : Int)) ∧ shownB c = false) := by
  have h : shownB c = decide (32 ≤ c.toNat ∧ c.toNat ≤ 126) := by unfold shownB; rw [Bool.decide_and]
  rw [h]
  simp only [decide_eq_true_eq, decide_eq_false_iff_not]
  omega
end Go.Proofs.YtdidengokijcjaaDoor.LabW
/-
  alluviumref07.Right, AllRight, All: THE WALKS.
-/
namespace Go.Proofs.YtdidengokijcjaaDoor.LabW
open Go.RowKit Go.Shelf LabM
end Go.Proofs.YtdidengokijcjaaDoor.LabW
/-
  match.Between, Without, Sorted: THE WALKS.
-/
namespace Go.Proofs.YtdidengokijcjaaDoor.LabW
open Go.RowKit Go.Shelf LabM
def insideB (f t : Int) (x : Sam) : Bool := decide (f ≤ x.1) && decide (x.1 ≤ t)
/-- Do times rise? -/
def sortedL : List Sam → Bool
  | [] => true
  | [_] => true
  | x :: y :: l => decide (x.1 < y.1) && sortedL (y :: l)
theorem sortedL_at (l : List Sam) (k : Nat) (h : k + 1 < l.length) : sortedL (l.drop k) = (decide (l[k].1 < l[k + 1].1) && sortedL (l.drop (k + 1))) := by
  rw [List.drop_eq_getElem_cons (by omega : k < l.length), List.drop_eq_getElem_cons h, sortedL]
theorem sortedL_at2 (l : List Sam) (p k : Nat) (hk : k = p + 1) (h : k < l.length) (hp : p < l.length) : sortedL (l.drop p) = (decide (l[p].1 < l[k].1) && sortedL (l.drop k)) := by
  subst hk; exact sortedL_at l p h
theorem sortedL_end (l : List Sam) (k : Nat) (h : l.length ≤ k + 1) : sortedL (l.drop k) = true := by
  have hl : (l.drop k).length ≤ 1 := by rw [List.length_drop]; omega
  match l.drop k, hl with
  | [], _ => rfl
  | [_], _ => rfl
set_option maxHeartbeats 2000000 in
theorem sorted_any (A : Option Addr) (n c : Nat) (l : List Sam) (w : World) (hl : Comes w 2 encS okS A n c l) :
    Calls Tryd.prog 13 #[.slice A n c] w fun e w' => e = .returned (.bool (sortedL l)) ∧ Below w.heap.size w w' := by
  have HL := Lib.hid hl
  have hcap : c ≤ 9223372036854775807 := hl.cap
  have hle := hl.le
  clear hl
  go_enter Tryd.func13, Tryd.ntmps13
  go_wp2_with fail
  go_loopw [6] (fun v6 wr => ∃ k : Nat, k ≤ n ∧ v6 = .int .i64 k ∧ sortedL l = sortedL (l.drop (k - 1)) ∧ Below w.heap.size w wr) (fun v6 _ => n - (intOf v6).toNat)
  case atStart => exact ⟨0, Nat.zero_le _, rfl, rfl, Below.refl _ _⟩
  case round =>
    obtain ⟨k, hk, rfl, hs, ho⟩ := hrel
    have hln := HL.out.len
    by_cases hlt : k < n
    · have hkl : k < l.length := by omega
      obtain ⟨b, o, rfl, hcs⟩ := S_cells HL.out.lies hkl
      obtain ⟨hc0, hc1⟩ := hcs _ ho
      have HO := Lib.hid ho
      by_cases h0 : k = 0
      · have HS := Lib.hid hs
        clear ho hln hcs hs hc0 hc1
        subst h0
        go_wp2_with fail
        go_quiet (fail)
        go_wp2_with fail
        go_roundw
        case rel => exact ⟨1, by omega, rfl, HS.out, HO.out.trans ⟨rfl, rfl, rfl, Nat.le_refl _, fun _ _ => rfl⟩⟩
        case measure => simp [intOf]; omega
      · obtain ⟨p, hp⟩ : ∃ p, k = p + 1 := ⟨k - 1, by omega⟩
        obtain ⟨b2, o2, hA2, hcs2⟩ := S_cells HL.out.lies (show p < l.length by omega)
        obtain ⟨rfl, rfl⟩ : b = b2 ∧ o = o2 := by injection hA2 with hA2; injection hA2 with e1 e2; exact ⟨e1, e2⟩
        obtain ⟨hd0, hd1⟩ := hcs2 _ ho
        rw [show k - 1 = p by omega, sortedL_at2 l p k hp hkl (by omega)] at hs
        generalize l[p]'(by omega) = y at *
        generalize l[k] = x at *
        obtain ⟨x1, x2⟩ := x
        obtain ⟨y1, y2⟩ := y
        simp only [] at hc0 hd0 hs
        have HS := Lib.hid (And.intro hs hp)
        have i0 : (0 : Int) < (k : Int) := by omega
        have i0' : 0 < k := by omega
        have i1 : (k : Int) < (n : Int) := by omega
        have i3 : (0 : Int) ≤ (p : Int) := by omega
        have i4 : (p : Int) < (n : Int) := by omega
        have i2 : IntKind.i64.wrap ((k : Int) - 1) = (p : Int) := by rw [show (k : Int) - 1 = (p : Int) by omega]; exact IntWalk.i64_in _ (by omega)
        clear ho hln hcs hs hcs2 hA2 hc1 hd1 hp h0
        by_cases hyx : y1 < x1
        · have hge : ¬ x1 ≤ y1 := by omega
          have hged : decide (x1 ≤ y1) = false := decide_eq_false hge
          go_wp2_with fail
          go_quiet (fail)
          go_wp2_with fail
          go_roundw
          case rel => exact ⟨k + 1, by omega, by go_num, by rw [HS.out.1, decide_eq_true hyx, Bool.true_and, Nat.add_sub_cancel], HO.out.trans ⟨rfl, rfl, rfl, Nat.le_refl _, fun _ _ => rfl⟩⟩
          case measure => simp [intOf]; omega
        · have hge : x1 ≤ y1 := by omega
          have hged : decide (x1 ≤ y1) = true := decide_eq_true hge
          go_wp2_with fail
          go_quiet (fail)
          go_wp2_with fail
          go_ret
          exact ⟨by rw [HS.out.1, decide_eq_false (show ¬ y1 < x1 by omega)]; rfl, HO.out.trans ⟨rfl, rfl, rfl, Nat.le_refl _, fun _ _ => rfl⟩⟩
    · obtain rfl : k = n := by omega
      rw [sortedL_end l _ (by omega)] at hs
      have HO := Lib.hid (And.intro ho hs)
      clear ho hs
      go_wp2_with fail
      go_ret
      exact ⟨by rw [HO.out.2]; rfl, HO.out.1⟩
set_option maxHeartbeats 2000000 in
theorem rsorted_any (A : Option Addr) (n c : Nat) (l : List Sam) (w : World) (hl : Comes w 2 encS okS A n c l) :
    Calls Tryd.prog 19 #[.slice A n c] w fun e w' => e = .returned (.bool (sortedL l)) ∧ Below w.heap.size w w' := by
  have HL := Lib.hid hl
  have hcap : c ≤ 9223372036854775807 := hl.cap
  have hle := hl.le
  clear hl
  go_enter Tryd.func19, Tryd.ntmps19
  go_wp2_with fail
  go_loopw [3] (fun v3 wr => ∃ p : Nat, p ≤ n ∧ v3 = .int .i64 ((p : Int) + 1) ∧ sortedL l = sortedL (l.drop p) ∧ Below w.heap.size w wr) (fun v3 _ => n + 1 - (intOf v3).toNat)
  case atStart => exact ⟨0, Nat.zero_le _, rfl, rfl, Below.refl _ _⟩
  case round =>
    obtain ⟨p, hp, rfl, hs, ho⟩ := hrel
    have hln := HL.out.len
    by_cases hlt : p + 1 < n
    · obtain ⟨k, hk⟩ : ∃ k, p + 1 = k := ⟨_, rfl⟩
      have hki : (p : Int) + 1 = (k : Int) := by omega
      obtain ⟨b, o, rfl, hcs⟩ := S_cells HL.out.lies (show k < l.length by omega)
      obtain ⟨hc0, hc1⟩ := hcs _ ho
      have HO := Lib.hid ho
      obtain ⟨b2, o2, hA2, hcs2⟩ := S_cells HL.out.lies (show p < l.length by omega)
      obtain ⟨rfl, rfl⟩ : b = b2 ∧ o = o2 := by injection hA2 with hA2; injection hA2 with e1 e2; exact ⟨e1, e2⟩
      obtain ⟨hd0, hd1⟩ := hcs2 _ ho
      rw [sortedL_at2 l p k hk.symm (by omega) (by omega)] at hs
      generalize l[p]'(by omega) = y at *
      generalize l[k]'(by omega) = x at *
      obtain ⟨x1, x2⟩ := x
      obtain ⟨y1, y2⟩ := y
      simp only [] at hc0 hd0 hs
      rw [hki]
      have HS := Lib.hid (And.intro hs (And.intro hk hki))
      have i1 : (k : Int) < (n : Int) := by omega
      have i0 : (0 : Int) ≤ (k : Int) := by omega
      have i3 : (0 : Int) ≤ (p : Int) := by omega
      have i4 : (p : Int) < (n : Int) := by omega
      have i2 : IntKind.i64.wrap ((k : Int) - 1) = (p : Int) := by rw [show (k : Int) - 1 = (p : Int) by omega]; exact IntWalk.i64_in _ (by omega)
      have i5 : p + 1 ≤ n := by omega
      have i6 : k ≤ n := by omega
      clear ho hln hcs hs hcs2 hA2 hc1 hd1 hk hki
      by_cases hyx : y1 < x1
      · have hge : ¬ x1 ≤ y1 := by omega
        have hged : decide (x1 ≤ y1) = false := decide_eq_false hge
        go_wp2_with fail
        go_quiet (fail)
        go_wp2_with fail
        go_roundw
        case rel => exact ⟨k, i6, rfl, by rw [HS.out.1, decide_eq_true hyx, Bool.true_and], HO.out.trans ⟨rfl, rfl, rfl, Nat.le_refl _, fun _ _ => rfl⟩⟩
        case measure => simp [intOf]; omega
      · have hge : x1 ≤ y1 := by omega
        have hged : decide (x1 ≤ y1) = true := decide_eq_true hge
        go_wp2_with fail
        go_quiet (fail)
        go_wp2_with fail
        go_ret
        exact ⟨by rw [HS.out.1, decide_eq_false (show ¬ y1 < x1 by omega)]; rfl, HO.out.trans ⟨rfl, rfl, rfl, Nat.le_refl _, fun _ _ => rfl⟩⟩
    · rw [sortedL_end l _ (by omega)] at hs
      have HO := Lib.hid (And.intro ho hs)
      have hnlt : ¬ ((p : Int) + 1 < (n : Int)) := by omega
      clear ho hs hln
      go_wp2_with fail
      go_ret
      exact ⟨by rw [HO.out.2]; rfl, HO.out.1⟩
end Go.Proofs.YtdidengokijcjaaDoor.LabW
/-
  EQUALITY OF STRUCTS OF ONE-CELL FIELDS, AS RUN EQUATIONS.
-/
namespace Go.Proofs.YtdidengokijcjaaDoor.LabW
open Go.RowKit
def sameS (x1 y1 : Int) (x2 y2 : Int) : Bool := (x1 == y1) && (x2 == y2)
set_option maxRecDepth 100000 in
theorem equal_S (x1 y1 : Int) (x2 y2 : Int) (w : World) : (Op.equalIn 10000 37 (.agg #[.int .i64 x1, .int .u64 x2]) (.agg #[.int .i64 y1, .int .u64 y2])).run Tryd.prog w = .ok (sameS x1 y1 x2 y2) w := by
  have ht : Tryd.prog.underlying 37 = some (.struct (Tryd.prog.fieldsOf 37)) := by kernel_rfl
  have hp : Tryd.prog.stoodInHeld 37 = false := by kernel_rfl
  rw [run_equalIn_agg _ _ _ _ _ ht hp]
  unfold Program.fieldsOf sameS
  rw [Tryd.underlying37]
  clear ht hp
  have e0 := fun d a b => run_equalIn_int (P := Tryd.prog) w d 2 .i64 .i64 a b Tryd.underlying2
  have e1 := fun d a b => run_equalIn_int (P := Tryd.prog) w d 35 .u64 .u64 a b Tryd.underlying35
  simp (decide := true) only [Op.eqFields, Sem.run_ite, Sem.run_bind, Sem.run_pure, part, Tryd.isAgg2, Tryd.isAgg35, Result.andThen_ok, if_false, if_true, show (#[.int .i64 x1, .int .u64 x2] : Array Value)[0]? = some (.int .i64 x1) from rfl, show (#[.int .i64 x1, .int .u64 x2] : Array Value)[1]? = some (.int .u64 x2) from rfl, show (#[.int .i64 y1, .int .u64 y2] : Array Value)[0]? = some (.int .i64 y1) from rfl, show (#[.int .i64 y1, .int .u64 y2] : Array Value)[1]? = some (.int .u64 y2) from rfl, e0 9998, e1 9998]
  cases (x1 == y1) <;> cases (x2 == y2) <;> rfl
theorem neq_S (x1 y1 : Int) (x2 y2 : Int) : ∀ w, (binOp .neq 37 (.agg #[.int .i64 x1, .int .u64 x2]) (.agg #[.int .i64 y1, .int .u64 y2])).run Tryd.prog w = .ok (.bool (!sameS x1 y1 x2 y2)) w := fun w => by
  rw [run_neq_struct, equal_S]; rfl
theorem eql_S (x1 y1 : Int) (x2 y2 : Int) : ∀ w, (binOp .eql 37 (.agg #[.int .i64 x1, .int .u64 x2]) (.agg #[.int .i64 y1, .int .u64 y2])).run Tryd.prog w = .ok (.bool (sameS x1 y1 x2 y2)) w := fun w => by
  rw [run_eql_struct, equal_S]; rfl
theorem guard_S : Tryd.prog.eqGuardType Tryd.prog.depth 37 = false := by kernel_rfl
def sameL (x1 y1 : ByteArray) (x2 y2 : ByteArray) : Bool := (x1.toList == y1.toList) && (x2.toList == y2.toList)
def sameM (x1 y1 : Int) (x2 y2 : ByteArray) (x3 y3 : ByteArray) : Bool := (x1 == y1) && (x2.toList == y2.toList) && (x3.toList == y3.toList)
end Go.Proofs.YtdidengokijcjaaDoor.LabW
/-
  alluviumref07.Between, Same, Row: THE WALKS.
-/
namespace Go.Proofs.YtdidengokijcjaaDoor.LabW
open Go.RowKit Go.Shelf LabM
set_option maxRecDepth 20000 in
set_option maxHeartbeats 2000000 in
theorem rsame_any (A : Option Addr) (n c : Nat) (l : List Sam) (A2 : Option Addr) (n2 c2 : Nat) (l2 : List Sam) (w : World) (hl : Comes w 2 encS okS A n c l) (hl2 : Comes w 2 encS okS A2 n2 c2 l2) :
    Calls Tryd.prog 12 #[.slice A n c, .slice A2 n2 c2] w fun e w' => e = .returned (.bool (decide (l = l2))) ∧ Below w.heap.size w w' := by
  have HL := Lib.hid hl
  have HL2 := Lib.hid hl2
  have hcap : c ≤ 9223372036854775807 := hl.cap
  have hle := hl.le
  have hcap2 : c2 ≤ 9223372036854775807 := hl2.cap
  have hle2 := hl2.le
  clear hl hl2
  by_cases hnn : n = n2
  · subst hnn
    go_enter Tryd.func12, Tryd.ntmps12
    go_wp2_with fail
    go_loopw [5] (fun v5 wr => ∃ k : Nat, k ≤ n ∧ v5 = .int .i64 k ∧ l.take k = l2.take k ∧ Below w.heap.size w wr) (fun v5 _ => n - (intOf v5).toNat)
    case atStart => exact ⟨0, Nat.zero_le _, rfl, rfl, Below.refl _ _⟩
    case round =>
      obtain ⟨k, hk, rfl, ht, ho⟩ := hrel
      have hln := HL.out.len
      have hln2 := HL2.out.len
      by_cases hlt : k < n
      · have hkl : k < l.length := by omega
        have hkl2 : k < l2.length := by omega
        obtain ⟨b, o, rfl, hcs⟩ := S_cells HL.out.lies hkl
        obtain ⟨b2, o2, rfl, hcs2⟩ := S_cells HL2.out.lies hkl2
        obtain ⟨hc0, hc1⟩ := hcs _ ho
        obtain ⟨hd0, hd1⟩ := hcs2 _ ho
        have hs1 := take_snocL l k hkl
        have hs2 := take_snocL l2 k hkl2
        generalize l[k] = x at *
        generalize l2[k] = y at *
        obtain ⟨x1, x2⟩ := x
        obtain ⟨y1, y2⟩ := y
        simp only [] at hc0 hc1 hd0 hd1
        have HO := Lib.hid ho
        have HT := Lib.hid ht
        rw [← ht] at hs2
        have HS := Lib.hid (And.intro hs1 hs2)
        clear hs1 hs2
        have i0 : (0 : Int) ≤ (k : Int) := by omega
        have i1 : (k : Int) < (n : Int) := by omega
        clear ho hln hcs hcs2 hln2
        have hneq := fun w => equal_S x1 y1 x2 y2 w
        have hgd := guard_S
        by_cases hxy : (x1, x2) = (y1, y2)
        · have hsm : sameS x1 y1 x2 y2 = true := by
            injection hxy with e1 e2; subst e1 e2; unfold sameS; simp
          rw [hsm] at hneq
          have HX := Lib.hid hxy
          clear hxy hsm ht
          go_wp2_with fail
          go_quiet (fail)
          go_wp2_with fail
          go_roundw
          case rel => exact ⟨k + 1, by omega, by go_num, by rw [HS.out.1, HS.out.2, HT.out, HX.out], HO.out.trans ⟨rfl, rfl, rfl, Nat.le_refl _, fun _ _ => rfl⟩⟩
          case measure => simp [intOf]; omega
        · have hsm : sameS x1 y1 x2 y2 = false := by
            cases h : sameS x1 y1 x2 y2 with
            | false => rfl
            | true =>
              unfold sameS at h
              simp at h
              exact absurd (by rw [h.1, h.2]) hxy
          rw [hsm] at hneq
          have hno : l ≠ l2 := by
            intro e
            have h1 := HS.out.1; have h2 := HS.out.2
            rw [e] at h1
            rw [h1, ht] at h2
            have := List.append_cancel_left h2
            simp at this
            exact hxy (by rw [this.1, this.2])
          have HX := Lib.hid hno
          clear hxy hsm hno ht
          go_wp2_with fail
          go_quiet (fail)
          go_wp2_with fail
          go_ret
          exact ⟨by rw [decide_eq_false HX.out]; rfl, HO.out.trans ⟨rfl, rfl, rfl, Nat.le_refl _, fun _ _ => rfl⟩⟩
      · obtain rfl : k = n := by omega
        rw [List.take_of_length_le (by omega), List.take_of_length_le (by omega)] at ht
        have HO := Lib.hid (And.intro ho ht)
        clear ho ht hln hln2
        go_wp2_with fail
        go_ret
        exact ⟨by rw [decide_eq_true HO.out.2]; rfl, HO.out.1⟩
  · have hno : l ≠ l2 := by
      intro e; apply hnn; rw [← HL.out.len, ← HL2.out.len, e]
    have HX := Lib.hid hno
    have hni : ¬ ((n : Int) = (n2 : Int)) := by omega
    have hne2 : ((n : Int) != (n2 : Int)) = true := by simpa using hni
    clear hni
    clear hno hnn
    go_enter Tryd.func12, Tryd.ntmps12
    go_wp2_with fail
    go_ret
    exact ⟨by rw [decide_eq_false HX.out]; rfl, Below.refl _ _⟩
end Go.Proofs.YtdidengokijcjaaDoor.LabW
/-
  THE SHELF LAYINGS OF math/bits AT THIS PROGRAM, IN PLAIN WORDS: written by lay-plain.
-/
namespace Go.Proofs
open Go.Shelf
def Tryd.lays134_ren : Go.Shelf.Ren := ⟨fun | 134 => 99 | 129 => 101 | n => n, fun | 53 => 35 | 3 => 3 | 4 => 4 | 46 => 97 | 5 => 5 | 9 => 9 | n => n, fun | n => n⟩
theorem Tryd.lays134 : Go.Proofs.Lays.n134 Tryd.prog Tryd.lays134_ren := {
  mixed := by kernel_rfl
  f129 := Tryd.func101.trans (congrArg some (by kernel_rfl))
  f134 := Tryd.func99.trans (congrArg some (by kernel_rfl))
  t3 := Tryd.underlying3
  a3 := Tryd.isAgg3
  z3 := Tryd.sizeOf3
  v3 := Tryd.zeroValue3
  t4 := Tryd.underlying4
  a4 := Tryd.isAgg4
  z4 := Tryd.sizeOf4
  v4 := Tryd.zeroValue4
  t5 := Tryd.underlying5
  a5 := Tryd.isAgg5
  z5 := Tryd.sizeOf5
  v5 := Tryd.zeroValue5
  t9 := Tryd.underlying9
  a9 := Tryd.isAgg9
  z9 := Tryd.sizeOf9
  v9 := Tryd.zeroValue9
  t46 := Tryd.underlying97
  a46 := Tryd.isAgg97
  z46 := Tryd.sizeOf97
  v46 := Tryd.zeroValue97
  t53 := Tryd.underlying35
  a53 := Tryd.isAgg35
  z53 := Tryd.sizeOf35
  v53 := Tryd.zeroValue35 }
def Tryd.lays29_ren : Go.Shelf.Ren := ⟨fun | 29 => 100 | n => n, fun | 22 => 35 | 3 => 3 | 4 => 4 | 25 => 97 | 54 => 146 | 0 => 0 | 5 => 5 | n => n, fun | 1 => 0 | n => n⟩
theorem Tryd.lays29 : Go.Proofs.Lays7.n29 Tryd.prog Tryd.lays29_ren := {
  mixed := by kernel_rfl
  f29 := Tryd.func100.trans (congrArg some (by kernel_rfl))
  t0 := Tryd.underlying0
  a0 := Tryd.isAgg0
  z0 := Tryd.sizeOf0
  v0 := Tryd.zeroValue0
  i0 := by kernel_rfl
  t3 := Tryd.underlying3
  a3 := Tryd.isAgg3
  z3 := Tryd.sizeOf3
  v3 := Tryd.zeroValue3
  i3 := by kernel_rfl
  t4 := Tryd.underlying4
  a4 := Tryd.isAgg4
  z4 := Tryd.sizeOf4
  v4 := Tryd.zeroValue4
  i4 := by kernel_rfl
  t5 := Tryd.underlying5
  a5 := Tryd.isAgg5
  z5 := Tryd.sizeOf5
  v5 := Tryd.zeroValue5
  i5 := by kernel_rfl
  t22 := Tryd.underlying35
  a22 := Tryd.isAgg35
  z22 := Tryd.sizeOf35
  v22 := Tryd.zeroValue35
  i22 := by kernel_rfl
  t25 := Tryd.underlying97
  a25 := Tryd.isAgg97
  z25 := Tryd.sizeOf97
  v25 := Tryd.zeroValue97
  i25 := by kernel_rfl
  t54 := Tryd.underlying146
  a54 := Tryd.isAgg146
  z54 := Tryd.sizeOf146
  g1 := by kernel_rfl }
end Go.Proofs
