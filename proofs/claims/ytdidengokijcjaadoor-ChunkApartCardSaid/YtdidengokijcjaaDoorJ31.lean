/-
  ChunkPuts, ChunkSizes, ChunkApart: THE WALKS.
  ChunkBack, ChunkSmallest: THE WALKS.
  HOW A ROW OF SAMPLES IS OPENED; the walks of chapter 11 at whatever arguments.
-/
import Derived.Test.YtdidengokijcjaaDoorJ26
import Derived.Test.YtdidengokijcjaaDoorJ29
import Derived.Test.YtdidengokijcjaaDoorJ30
import Derived.Test.YtdidengokijcjaaDoorJ22
import Derived.Lib.SmallJoins
/-
  ChunkPuts, ChunkSizes, ChunkApart: THE WALKS.
-/
namespace Go.Proofs.YtdidengokijcjaaDoor.ChW
set_option linter.unusedVariables false
open Go.RowKit FrM FrW StM ChM LabW BitsM BitsW
theorem put_named (gen : Int) (A : Option Addr) (n c : Nat) (l : List Sm) (w : World) (hl : Comes w 2 encS okS A n c l) (hT : Hid (∀ W, Below w.heap.size w W → Tab W)) :
    Hid (∀ W, Below w.heap.size w W → Calls Tryd.prog 9 #[.slice A n c, .int .i64 gen] W fun e w' => e = .returned (.tuple #[.string (bs (putC gen l).1), .int .i64 (putC gen l).2]) ∧ Below W.heap.size W w') :=
  Lib.hid (fun W h => put_any gen A n c l W (hl.later h) (hT.out _ h))
theorem rput_named (gen : Int) (A : Option Addr) (n c : Nat) (l : List Sm) (w : World) (hl : Comes w 2 encS okS A n c l) :
    Hid (∀ W, Below w.heap.size w W → Calls Tryd.prog 10 #[.slice A n c, .int .i64 gen] W fun e w' => e = .returned (.tuple #[.string (bs (putC gen l).1), .int .i64 (putC gen l).2]) ∧ Below W.heap.size W w') :=
  Lib.hid (fun W h => rput_any gen A n c l W (hl.later h))
set_option maxRecDepth 20000 in
set_option maxHeartbeats 4000000 in
theorem chunkPuts_all (A : Option Addr) (n c : Nat) (l : List Sm) (gen : Int) (w : World) (hl : Comes w 2 encS okS A n c l) (_ : (Lit.int .i64 gen).wf = true) (hT : Tab w) :
    Calls Tryd.prog 3 #[.slice A n c, .int .i64 gen] w fun e w' => e = .returned (.bool true) ∧ Below w.heap.size w w' := by
  have HL := Lib.hid hl
  have HTT : Hid (∀ W, Below w.heap.size w W → Tab W) := Lib.hid fun W h => hT.later h
  have hcap : c ≤ 9223372036854775807 := hl.cap
  have hle := hl.le
  have hln := hl.len
  have hok : okMs l := fun x hx => ok_of (hl.ok x hx)
  clear hl hT
  have KP := put_named gen A n c l w HL.out HTT
  have KR := rput_named gen A n c l w HL.out
  generalize putC gen l = pc at KP KR
  obtain ⟨p, x⟩ := pc
  simp only [] at KP KR
  generalize bs p = X at KP KR
  clear hln hok
  by_cases hbig : (n : Int) > 240
  · go_enter Tryd.func3, Tryd.ntmps3
    go_wp2_with fail
    refine (works_any _ (HTT.out _ (Below.refl _ _))).mono ?_
    rintro e w1 ⟨rfl, hb1⟩
    have HB := Lib.hid hb1
    clear hb1
    go_wp2_with fail
    go_ret
    exact ⟨rfl, HB.out⟩
  · go_enter Tryd.func3, Tryd.ntmps3
    go_wp2_with fail
    refine (works_any _ (HTT.out _ (Below.refl _ _))).mono ?_
    rintro e w1 ⟨rfl, hb1⟩
    have HB := Lib.hid hb1
    clear hb1
    go_wp2_with fail
    refine (KP.out _ HB.out).mono ?_
    rintro e w2 ⟨rfl, hb1⟩
    replace HB := Lib.hid (later HB.out hb1)
    clear hb1
    go_wp2_with fail
    refine (KR.out _ HB.out).mono ?_
    rintro e w3 ⟨rfl, hb1⟩
    replace HB := Lib.hid (later HB.out hb1)
    clear hb1
    go_wp2_with fail
    go_ret
    exact ⟨rfl, HB.out⟩
set_option maxRecDepth 20000 in
set_option maxHeartbeats 4000000 in
theorem chunkSizes_all (A : Option Addr) (n c : Nat) (l : List Sm) (gen : Int) (w : World) (hl : Comes w 2 encS okS A n c l) (_ : (Lit.int .i64 gen).wf = true) (hT : Tab w) :
    Calls Tryd.prog 6 #[.slice A n c, .int .i64 gen] w fun e w' => e = .returned (.bool true) ∧ Below w.heap.size w w' := by
  have HL := Lib.hid hl
  have HTT : Hid (∀ W, Below w.heap.size w W → Tab W) := Lib.hid fun W h => hT.later h
  have hcap : c ≤ 9223372036854775807 := hl.cap
  have hle := hl.le
  have hln := hl.len
  have hok : okMs l := fun x hx => ok_of (hl.ok x hx)
  clear hl hT
  have KP := put_named gen A n c l w HL.out HTT
  have hsz := @sizes gen l
  have hno := @putC_1 gen l
  have hp2 := putC_2 gen l
  have hlen := putC_len gen l
  generalize putC gen l = pc at KP hsz hno hp2 hlen
  obtain ⟨p, x⟩ := pc
  simp only [] at KP hsz hno hp2 hlen
  have hzp := bs_size p
  by_cases hbig : (n : Int) > 240
  · clear hsz hno hp2 hlen hzp
    go_enter Tryd.func6, Tryd.ntmps6
    go_wp2_with fail
    refine (works_any _ (HTT.out _ (Below.refl _ _))).mono ?_
    rintro e w1 ⟨rfl, hb1⟩
    have HB := Lib.hid hb1
    clear hb1
    go_wp2_with fail
    go_ret
    exact ⟨rfl, HB.out⟩
  · have hn : n ≤ 240 := by omega
    rcases hp2 with rfl | rfl
    · obtain ⟨s1, s2, s3⟩ := hsz rfl
      generalize bs p = X at KP hzp
      have z1 : (X.size : Int) ≥ 5 := by omega
      have z2 : (X.size : Int) ≤ 200000 := by omega
      rcases (by omega : gen = 1 ∨ gen = 2 ∨ (¬ gen = 1 ∧ ¬ gen = 2)) with rfl | rfl | ⟨g1, g2⟩
      · have s4 : (X.size : Int) = 12 + 16 * (n : Int) := by have := s2 rfl; omega
        clear s1 s2 s3 hno hlen hzp hln hok
        go_enter Tryd.func6, Tryd.ntmps6
        go_wp2_with fail
        refine (works_any _ (HTT.out _ (Below.refl _ _))).mono ?_
        rintro e w1 ⟨rfl, hb1⟩
        have HB := Lib.hid hb1
        clear hb1
        go_wp2_with fail
        refine (KP.out _ HB.out).mono ?_
        rintro e w2 ⟨rfl, hb1⟩
        replace HB := Lib.hid (later HB.out hb1)
        clear hb1
        go_wp2_with fail
        go_ret
        exact ⟨rfl, HB.out⟩
      · have s4 : (X.size : Int) ≥ 5 + 9 * (n : Int) := by have := s3 rfl; omega
        clear s1 s2 s3 hno hlen hzp hln hok
        go_enter Tryd.func6, Tryd.ntmps6
        go_wp2_with fail
        refine (works_any _ (HTT.out _ (Below.refl _ _))).mono ?_
        rintro e w1 ⟨rfl, hb1⟩
        have HB := Lib.hid hb1
        clear hb1
        go_wp2_with fail
        refine (KP.out _ HB.out).mono ?_
        rintro e w2 ⟨rfl, hb1⟩
        replace HB := Lib.hid (later HB.out hb1)
        clear hb1
        go_wp2_with fail
        go_ret
        exact ⟨rfl, HB.out⟩
      · have g3 : (gen != 1) = true := by simpa using g1
        have g4 : (gen != 2) = true := by simpa using g2
        clear s1 s2 s3 hno hlen hzp hln hok g1 g2
        go_enter Tryd.func6, Tryd.ntmps6
        go_wp2_with fail
        refine (works_any _ (HTT.out _ (Below.refl _ _))).mono ?_
        rintro e w1 ⟨rfl, hb1⟩
        have HB := Lib.hid hb1
        clear hb1
        go_wp2_with fail
        refine (KP.out _ HB.out).mono ?_
        rintro e w2 ⟨rfl, hb1⟩
        replace HB := Lib.hid (later HB.out hb1)
        clear hb1
        go_wp2_with fail
        go_ret
        exact ⟨rfl, HB.out⟩
    · have h0 := hno (by decide)
      subst h0
      have e0 : bs [] = ⟨#[]⟩ := rfl
      rw [e0] at KP
      clear hno hsz hlen hzp e0 hln hok
      go_enter Tryd.func6, Tryd.ntmps6
      go_wp2_with fail
      refine (works_any _ (HTT.out _ (Below.refl _ _))).mono ?_
      rintro e w1 ⟨rfl, hb1⟩
      have HB := Lib.hid hb1
      clear hb1
      go_wp2_with fail
      refine (KP.out _ HB.out).mono ?_
      rintro e w2 ⟨rfl, hb1⟩
      replace HB := Lib.hid (later HB.out hb1)
      clear hb1
      go_wp2_with fail
      go_ret
      exact ⟨rfl, HB.out⟩
set_option maxRecDepth 20000 in
set_option maxHeartbeats 4000000 in
theorem chunkApart_all (A : Option Addr) (n c : Nat) (l : List Sm) (A2 : Option Addr) (n2 c2 : Nat) (m : List Sm) (gen : Int) (w : World) (hl : Comes w 2 encS okS A n c l) (hl2 : Comes w 2 encS okS A2 n2 c2 m) (_ : (Lit.int .i64 gen).wf = true) (hT : Tab w) :
    Calls Tryd.prog 7 #[.slice A n c, .slice A2 n2 c2, .int .i64 gen] w fun e w' => e = .returned (.bool true) ∧ Below w.heap.size w w' := by
  have HL := Lib.hid hl
  have HL2 := Lib.hid hl2
  have HTT : Hid (∀ W, Below w.heap.size w W → Tab W) := Lib.hid fun W h => hT.later h
  have hcap : c ≤ 9223372036854775807 := hl.cap
  have hle := hl.le
  have hcap2 : c2 ≤ 9223372036854775807 := hl2.cap
  have hle2 := hl2.le
  have hok : okMs l := fun x hx => ok_of (hl.ok x hx)
  have hok2 : okMs m := fun x hx => ok_of (hl2.ok x hx)
  clear hl hl2 hT
  have KP := put_named gen A n c l w HL.out HTT
  have KP2 := put_named gen A2 n2 c2 m w HL2.out HTT
  have KS : Hid (∀ W, Below w.heap.size w W → Calls Tryd.prog 12 #[.slice A n c, .slice A2 n2 c2] W fun e w' => e = .returned (.bool (decide (l = m))) ∧ Below W.heap.size W w') := Lib.hid (fun W h => rsame_any A n c l A2 n2 c2 m W (HL.out.later h) (HL2.out.later h))
  have hinj := @put_inj gen l m hok hok2
  have hp2 := putC_2 gen l
  have hq2 := putC_2 gen m
  generalize putC gen l = pc at KP hinj hp2
  generalize putC gen m = qc at KP2 hinj hq2
  obtain ⟨p, x⟩ := pc
  obtain ⟨q, y⟩ := qc
  simp only [] at KP KP2 hinj hp2 hq2
  by_cases hb : 60 < n ∨ 60 < n2
  · have hcase : (n : Int) > 60 ∨ (¬ (n : Int) > 60 ∧ (n2 : Int) > 60) := by omega
    clear hb hinj hp2 hq2
    rcases hcase with h1 | ⟨h1, h2⟩
    all_goals (
      go_enter Tryd.func7, Tryd.ntmps7
      go_wp2_with fail
      refine (works_any _ (HTT.out _ (Below.refl _ _))).mono ?_
      rintro e w1 ⟨rfl, hb1⟩
      have HB := Lib.hid hb1
      clear hb1
      go_wp2_with fail
      go_ret
      exact ⟨rfl, HB.out⟩)
  · have h1 : ¬ (n : Int) > 60 := by omega
    have h2 : ¬ (n2 : Int) > 60 := by omega
    clear hb
    rcases hp2 with rfl | rfl
    · rcases hq2 with rfl | rfl
      · have hi := hinj rfl rfl
        have hb : bs p = bs q ↔ l = m := by rw [← hi]; exact ⟨fun h => by have := congrArg (fun x : ByteArray => x.data.toList) h; simpa [bs] using this, fun h => by rw [h]⟩
        obtain ⟨X, hX⟩ : ∃ X, bs p = X := ⟨_, rfl⟩
        obtain ⟨Y, hY⟩ : ∃ X, bs q = X := ⟨_, rfl⟩
        rw [hX] at hb KP
        rw [hY] at hb KP2
        clear hX hY hi hinj hok hok2
        by_cases hlm : l = m
        · have hXY := hb.2 hlm
          subst hXY
          rw [decide_eq_true hlm] at KS
          clear hb hlm
          go_enter Tryd.func7, Tryd.ntmps7
          go_wp2_with fail
          refine (works_any _ (HTT.out _ (Below.refl _ _))).mono ?_
          rintro e w1 ⟨rfl, hb1⟩
          have HB := Lib.hid hb1
          clear hb1
          go_wp2_with fail
          refine (KP.out _ HB.out).mono ?_
          rintro e w2 ⟨rfl, hb1⟩
          replace HB := Lib.hid (later HB.out hb1)
          clear hb1
          go_wp2_with fail
          refine (KP2.out _ HB.out).mono ?_
          rintro e w3 ⟨rfl, hb1⟩
          replace HB := Lib.hid (later HB.out hb1)
          clear hb1
          go_wp2_with fail
          refine (KS.out _ HB.out).mono ?_
          rintro e w4 ⟨rfl, hb1⟩
          replace HB := Lib.hid (later HB.out hb1)
          clear hb1
          go_wp2_with fail
          go_ret
          exact ⟨rfl, HB.out⟩
        · have hXY : ¬ X = Y := fun h => hlm (hb.1 h)
          have hXb : (X.toList == Y.toList) = false := by
            refine Bool.eq_false_iff.2 (fun h => hXY ?_)
            have h := eq_of_beq h
            rw [Go.ByteArray.toList_eq, Go.ByteArray.toList_eq] at h
            exact ByteArray.ext (Array.toList_inj.1 h)
          rw [decide_eq_false hlm] at KS
          clear hb hlm
          go_enter Tryd.func7, Tryd.ntmps7
          go_wp2_with fail
          refine (works_any _ (HTT.out _ (Below.refl _ _))).mono ?_
          rintro e w1 ⟨rfl, hb1⟩
          have HB := Lib.hid hb1
          clear hb1
          go_wp2_with fail
          refine (KP.out _ HB.out).mono ?_
          rintro e w2 ⟨rfl, hb1⟩
          replace HB := Lib.hid (later HB.out hb1)
          clear hb1
          go_wp2_with fail
          refine (KP2.out _ HB.out).mono ?_
          rintro e w3 ⟨rfl, hb1⟩
          replace HB := Lib.hid (later HB.out hb1)
          clear hb1
          go_wp2_with fail
          refine (KS.out _ HB.out).mono ?_
          rintro e w4 ⟨rfl, hb1⟩
          replace HB := Lib.hid (later HB.out hb1)
          clear hb1
          go_wp2_with fail
          go_ret
          exact ⟨rfl, HB.out⟩
      · generalize bs p = X at KP
        generalize bs q = Y at KP2
        clear hinj hok hok2
        go_enter Tryd.func7, Tryd.ntmps7
        go_wp2_with fail
        refine (works_any _ (HTT.out _ (Below.refl _ _))).mono ?_
        rintro e w1 ⟨rfl, hb1⟩
        have HB := Lib.hid hb1
        clear hb1
        go_wp2_with fail
        refine (KP.out _ HB.out).mono ?_
        rintro e w2 ⟨rfl, hb1⟩
        replace HB := Lib.hid (later HB.out hb1)
        clear hb1
        go_wp2_with fail
        refine (KP2.out _ HB.out).mono ?_
        rintro e w3 ⟨rfl, hb1⟩
        replace HB := Lib.hid (later HB.out hb1)
        clear hb1
        go_wp2_with fail
        go_ret
        exact ⟨rfl, HB.out⟩
    · generalize bs p = X at KP
      generalize bs q = Y at KP2
      clear hinj hok hok2
      rcases hq2 with rfl | rfl
      all_goals (
        go_enter Tryd.func7, Tryd.ntmps7
        go_wp2_with fail
        refine (works_any _ (HTT.out _ (Below.refl _ _))).mono ?_
        rintro e w1 ⟨rfl, hb1⟩
        have HB := Lib.hid hb1
        clear hb1
        go_wp2_with fail
        refine (KP.out _ HB.out).mono ?_
        rintro e w2 ⟨rfl, hb1⟩
        replace HB := Lib.hid (later HB.out hb1)
        clear hb1
        go_wp2_with fail
        refine (KP2.out _ HB.out).mono ?_
        rintro e w3 ⟨rfl, hb1⟩
        replace HB := Lib.hid (later HB.out hb1)
        clear hb1
        go_wp2_with fail
        go_ret
        exact ⟨rfl, HB.out⟩)
end Go.Proofs.YtdidengokijcjaaDoor.ChW
/-
  ChunkBack, ChunkSmallest: THE WALKS.
-/
namespace Go.Proofs.YtdidengokijcjaaDoor.ChW
set_option linter.unusedVariables false
open Go.RowKit FrM FrW StM ChM LabW BitsM BitsW
set_option maxRecDepth 20000 in
set_option maxHeartbeats 4000000 in
theorem chunkBack_all (A : Option Addr) (n c : Nat) (l : List Sm) (B : ByteArray) (gen : Int) (w : World) (hl : Comes w 2 encS okS A n c l) (hB : B.size ≤ maxLen) (_ : (Lit.int .i64 gen).wf = true) (hT : Tab w) :
    Calls Tryd.prog 4 #[.slice A n c, .string B, .int .i64 gen] w fun e w' => e = .returned (.bool true) ∧ Below w.heap.size w w' := by
  have HL := Lib.hid hl
  have HTT : Hid (∀ W, Below w.heap.size w W → Tab W) := Lib.hid fun W h => hT.later h
  have hcap : c ≤ 9223372036854775807 := hl.cap
  have hle := hl.le
  have hln := hl.len
  have hok : okMs l := fun x hx => ok_of (hl.ok x hx)
  clear hl hT
  have hB' : B.size ≤ 9223372036854775807 := hB
  by_cases hb : 60 < n ∨ 600 < B.size
  · have hcase : (n : Int) > 60 ∨ (¬ (n : Int) > 60 ∧ (B.size : Int) > 600) := by omega
    clear hb
    rcases hcase with h1 | ⟨h1, h2⟩
    all_goals (
      go_enter Tryd.func4, Tryd.ntmps4
      go_wp2_with fail
      refine (works_any _ (HTT.out _ (Below.refl _ _))).mono ?_
      rintro e w1 ⟨rfl, hb1⟩
      have HB := Lib.hid hb1
      clear hb1
      go_wp2_with fail
      go_ret
      exact ⟨rfl, HB.out⟩)
  have h1 : ¬ (n : Int) > 60 := by omega
  have h2 : ¬ (B.size : Int) > 600 := by omega
  have hbs : bs B.data.toList = B := bs_of B
  have hbz : B.data.toList.length = B.size := by simp
  have KP := put_named gen A n c l w HL.out HTT
  have KG2 : Hid (∀ W, Below w.heap.size w W → Calls Tryd.prog 11 #[.string B, .int .i64 gen] W (GetAns gen B.data.toList W)) := Lib.hid (fun W h => by have := get_any gen B.data.toList W (by omega) (HTT.out _ h); rw [hbs] at this; exact this)
  have hback := @read_put gen l hok
  have hno := @putC_1 gen l
  have hp2 := putC_2 gen l
  have hlen := putC_len gen l
  have KG : Hid (∀ W, Below w.heap.size w W → Calls Tryd.prog 11 #[.string (bs (putC gen l).1), .int .i64 gen] W (GetAns gen (putC gen l).1 W)) := Lib.hid (fun W h => get_any gen (putC gen l).1 W (by omega) (HTT.out _ h))
  -- what is got of the bytes, and put again
  have hr1 := @readC_none gen B.data.toList
  have hr2 := @put_read gen B.data.toList
  have KPN : Hid (∀ W A2 n2 c2, Below w.heap.size w W → Comes W 2 encS okS A2 n2 c2 (readC gen B.data.toList).1 → Calls Tryd.prog 9 #[.slice A2 n2 c2, .int .i64 gen] W fun e w' => e = .returned (.tuple #[.string (bs (putC gen (readC gen B.data.toList).1).1), .int .i64 (putC gen (readC gen B.data.toList).1).2]) ∧ Below W.heap.size W w') := Lib.hid (fun W A2 n2 c2 h hc => put_any gen A2 n2 c2 _ W hc (HTT.out _ h))
  have KSN : Hid (∀ W A2 n2 c2, Comes W 2 encS okS A2 n2 c2 (readC gen B.data.toList).1 → Calls Tryd.prog 13 #[.slice A2 n2 c2] W fun e w' => e = .returned (.bool (ChM.sorted (readC gen B.data.toList).1)) ∧ Below W.heap.size W w') := Lib.hid (fun W A2 n2 c2 hc => by rw [← sorted_eq]; exact sorted_any A2 n2 c2 _ W hc)
  unfold GetAns at KG KG2
  -- the second half, told once
  have HALF : ∀ (r : List Sm × Int), readC gen B.data.toList = r → (r.2 ≠ 0 ∧ r.1 = []) ∨ (r.2 = 0 ∧ putC gen r.1 = (B.data.toList, 0) ∧ ChM.sorted r.1 = true) := by
    rintro r rfl
    by_cases h : (readC gen B.data.toList).2 = 0
    · exact .inr ⟨h, hr2 h⟩
    · exact .inl ⟨h, hr1 h⟩
  clear hr1 hr2
  have HF := HALF _ rfl
  clear HALF
  generalize readC gen B.data.toList = rc at KG2 KPN KSN HF
  obtain ⟨R, y⟩ := rc
  simp only [] at KG2 KPN KSN HF
  by_cases hx : (putC gen l).2 = 0
  · have hbk := hback hx
    rw [hbk] at KG
    have hx' := hx
    generalize putC gen l = pc at KP KG hx'
    obtain ⟨p, x⟩ := pc
    simp only [] at KP KG hx'
    subst hx'
    generalize bs p = X at KP KG
    clear hback hno hp2 hlen hx hbk
    rcases HF with ⟨hy, hR⟩ | ⟨hy, hpr, hso⟩
    · have hyb : (y != 0) = true := by simpa using hy
      subst hR
      clear hy KPN KSN hbs hbz
      go_enter Tryd.func4, Tryd.ntmps4
      go_wp2_with fail
      refine (works_any _ (HTT.out _ (Below.refl _ _))).mono ?_
      rintro e w1 ⟨rfl, hb1⟩
      have HB := Lib.hid hb1
      clear hb1
      go_wp2_with fail
      refine (KP.out _ HB.out).mono ?_
      rintro e w2 ⟨rfl, hb1⟩
      replace HB := Lib.hid (later HB.out hb1)
      clear hb1
      go_wp2_with fail
      refine (KG.out _ HB.out).mono ?_
      rintro e w3 ⟨B3, i3, d3, rfl, hc3, hb1⟩
      replace HB := Lib.hid (later HB.out hb1)
      have HC3 := Lib.hid hc3
      clear hb1 hc3
      go_wp2_with fail
      refine (rsame_any A n c l B3 i3 d3 l _ (HL.out.later HB.out) HC3.out).mono ?_
      rw [decide_eq_true (rfl : l = l)]
      rintro e w4 ⟨rfl, hb1⟩
      replace HB := Lib.hid (later HB.out hb1)
      clear hb1
      go_wp2_with fail
      refine (KG2.out _ HB.out).mono ?_
      rintro e w5 ⟨B5, i5, d5, rfl, hc5, hb1⟩
      replace HB := Lib.hid (later HB.out hb1)
      have HC5 := Lib.hid hc5
      clear hb1 hc5
      go_wp2_with fail
      have hi5 : i5 = 0 := by have := HC5.out.len; simpa using this.symm
      subst hi5
      go_wp2_with fail
      go_ret
      exact ⟨rfl, HB.out⟩
    · subst hy
      rw [hpr] at KPN
      simp only [] at KPN
      rw [hbs] at KPN
      rw [hso] at KSN
      clear hpr hso hbs hbz
      go_enter Tryd.func4, Tryd.ntmps4
      go_wp2_with fail
      refine (works_any _ (HTT.out _ (Below.refl _ _))).mono ?_
      rintro e w1 ⟨rfl, hb1⟩
      have HB := Lib.hid hb1
      clear hb1
      go_wp2_with fail
      refine (KP.out _ HB.out).mono ?_
      rintro e w2 ⟨rfl, hb1⟩
      replace HB := Lib.hid (later HB.out hb1)
      clear hb1
      go_wp2_with fail
      refine (KG.out _ HB.out).mono ?_
      rintro e w3 ⟨B3, i3, d3, rfl, hc3, hb1⟩
      replace HB := Lib.hid (later HB.out hb1)
      have HC3 := Lib.hid hc3
      clear hb1 hc3
      go_wp2_with fail
      refine (rsame_any A n c l B3 i3 d3 l _ (HL.out.later HB.out) HC3.out).mono ?_
      rw [decide_eq_true (rfl : l = l)]
      rintro e w4 ⟨rfl, hb1⟩
      replace HB := Lib.hid (later HB.out hb1)
      clear hb1
      go_wp2_with fail
      refine (KG2.out _ HB.out).mono ?_
      rintro e w5 ⟨B5, i5, d5, rfl, hc5, hb1⟩
      replace HB := Lib.hid (later HB.out hb1)
      have HC5 := Lib.hid hc5
      clear hb1 hc5
      go_wp2_with fail
      refine (KPN.out _ B5 i5 d5 HB.out HC5.out).mono ?_
      rintro e w6 ⟨rfl, hb1⟩
      replace HB := Lib.hid (later HB.out hb1)
      replace HC5 := Lib.hid (HC5.out.later hb1)
      clear hb1
      go_wp2_with fail
      refine (KSN.out _ B5 i5 d5 HC5.out).mono ?_
      rintro e w7 ⟨rfl, hb1⟩
      replace HB := Lib.hid (later HB.out hb1)
      clear hb1
      go_wp2_with fail
      go_ret
      exact ⟨rfl, HB.out⟩
  · have h0 := hno hx
    have hx1 : (putC gen l).2 = 1 := hp2.resolve_left hx
    generalize putC gen l = pc at KP KG h0 hx1
    obtain ⟨p, x⟩ := pc
    simp only [] at KP KG h0 hx1
    subst h0 hx1
    have e0 : bs [] = ⟨#[]⟩ := rfl
    rw [e0] at KP KG
    clear hback hno hp2 hlen hx e0
    generalize readC gen [] = rc0 at KG
    obtain ⟨R0, y0⟩ := rc0
    simp only [] at KG
    rcases HF with ⟨hy, hR⟩ | ⟨hy, hpr, hso⟩
    · have hyb : (y != 0) = true := by simpa using hy
      subst hR
      clear hy KPN KSN hbs hbz
      go_enter Tryd.func4, Tryd.ntmps4
      go_wp2_with fail
      refine (works_any _ (HTT.out _ (Below.refl _ _))).mono ?_
      rintro e w1 ⟨rfl, hb1⟩
      have HB := Lib.hid hb1
      clear hb1
      go_wp2_with fail
      refine (KP.out _ HB.out).mono ?_
      rintro e w2 ⟨rfl, hb1⟩
      replace HB := Lib.hid (later HB.out hb1)
      clear hb1
      go_wp2_with fail
      refine (KG.out _ HB.out).mono ?_
      rintro e w3 ⟨B3, i3, d3, rfl, hc3, hb1⟩
      replace HB := Lib.hid (later HB.out hb1)
      have HC3 := Lib.hid hc3
      clear hb1 hc3
      go_wp2_with fail
      refine (KG2.out _ HB.out).mono ?_
      rintro e w5 ⟨B5, i5, d5, rfl, hc5, hb1⟩
      replace HB := Lib.hid (later HB.out hb1)
      have HC5 := Lib.hid hc5
      clear hb1 hc5
      go_wp2_with fail
      have hi5 : i5 = 0 := by have := HC5.out.len; simpa using this.symm
      subst hi5
      go_wp2_with fail
      go_ret
      exact ⟨rfl, HB.out⟩
    · subst hy
      rw [hpr] at KPN
      simp only [] at KPN
      rw [hbs] at KPN
      rw [hso] at KSN
      clear hpr hso hbs hbz
      go_enter Tryd.func4, Tryd.ntmps4
      go_wp2_with fail
      refine (works_any _ (HTT.out _ (Below.refl _ _))).mono ?_
      rintro e w1 ⟨rfl, hb1⟩
      have HB := Lib.hid hb1
      clear hb1
      go_wp2_with fail
      refine (KP.out _ HB.out).mono ?_
      rintro e w2 ⟨rfl, hb1⟩
      replace HB := Lib.hid (later HB.out hb1)
      clear hb1
      go_wp2_with fail
      refine (KG.out _ HB.out).mono ?_
      rintro e w3 ⟨B3, i3, d3, rfl, hc3, hb1⟩
      replace HB := Lib.hid (later HB.out hb1)
      have HC3 := Lib.hid hc3
      clear hb1 hc3
      go_wp2_with fail
      refine (KG2.out _ HB.out).mono ?_
      rintro e w5 ⟨B5, i5, d5, rfl, hc5, hb1⟩
      replace HB := Lib.hid (later HB.out hb1)
      have HC5 := Lib.hid hc5
      clear hb1 hc5
      go_wp2_with fail
      refine (KPN.out _ B5 i5 d5 HB.out HC5.out).mono ?_
      rintro e w6 ⟨rfl, hb1⟩
      replace HB := Lib.hid (later HB.out hb1)
      replace HC5 := Lib.hid (HC5.out.later hb1)
      clear hb1
      go_wp2_with fail
      refine (KSN.out _ B5 i5 d5 HC5.out).mono ?_
      rintro e w7 ⟨rfl, hb1⟩
      replace HB := Lib.hid (later HB.out hb1)
      clear hb1
      go_wp2_with fail
      go_ret
      exact ⟨rfl, HB.out⟩
set_option maxRecDepth 20000 in
set_option maxHeartbeats 4000000 in
theorem chunkSmallest_all (A : Option Addr) (n c : Nat) (l : List Sm) (w : World) (hl : Comes w 2 encS okS A n c l) (hT : Tab w) :
    Calls Tryd.prog 5 #[.slice A n c] w fun e w' => e = .returned (.bool true) ∧ Below w.heap.size w w' := by
  have HL := Lib.hid hl
  have HTT : Hid (∀ W, Below w.heap.size w W → Tab W) := Lib.hid fun W h => hT.later h
  have hcap : c ≤ 9223372036854775807 := hl.cap
  have hle := hl.le
  have hln := hl.len
  have hok : okMs l := fun x hx => ok_of (hl.ok x hx)
  clear hl hT
  have KB : Hid (∀ W, Below w.heap.size w W → Calls Tryd.prog 14 #[.slice A n c] W fun e w' => e = .returned (.int .i64 (smallestC l)) ∧ Below W.heap.size W w') := Lib.hid (fun W h => smallest_any A n c l W (HL.out.later h) (HTT.out _ h))
  have KP := fun g => put_named g A n c l w HL.out HTT
  by_cases hbig : (n : Int) > 240
  · go_enter Tryd.func5, Tryd.ntmps5
    go_wp2_with fail
    refine (works_any _ (HTT.out _ (Below.refl _ _))).mono ?_
    rintro e w1 ⟨rfl, hb1⟩
    have HB := Lib.hid hb1
    clear hb1
    go_wp2_with fail
    go_ret
    exact ⟨rfl, HB.out⟩
  by_cases hm : ChM.sorted l = true ∧ l.length ≤ 200
  · obtain ⟨hb3, hall⟩ := best hm
    have KPB := KP (smallestC l)
    have hlb := putC_len (smallestC l) l
    have hb0 := (hall (smallestC l) hb3.1 hb3.2).1
    rw [hb0] at KPB
    have HALL := Lib.hid hall
    have KPG : ∀ k : Nat, 1 ≤ k → k ≤ 3 → ∃ X : ByteArray, (Hid (∀ W, Below w.heap.size w W → Calls Tryd.prog 9 #[.slice A n c, .int .i64 (k : Int)] W fun e w' => e = .returned (.tuple #[.string X, .int .i64 0]) ∧ Below W.heap.size W w')) ∧ (putC (smallestC l) l).1.length ≤ X.size ∧ X.size ≤ 100004 ∧ (X.size = (putC (smallestC l) l).1.length → (k : Int) ≤ smallestC l) := by
      intro k h1 h2
      obtain ⟨a1, a2, a3⟩ := hall k (by omega) (by omega)
      refine ⟨bs (putC k l).1, ?_, ?_, ?_, ?_⟩
      · have := KP k
        rw [a1] at this
        exact this
      · rw [bs_size]; exact a2
      · rw [bs_size]; exact putC_len _ _
      · rw [bs_size]; exact a3
    have HKG := Lib.hid KPG
    have hzX := bs_size (putC (smallestC l) l).1
    have hX : (putC (smallestC l) l).1.length = (bs (putC (smallestC l) l).1).size := hzX.symm
    rw [hX] at HKG hlb
    generalize bs (putC (smallestC l) l).1 = X at KPB HKG hlb
    generalize smallestC l = b at KB KPB HKG hb3
    clear hall hb0 HALL KPG hm hln hok KP hzX hX
    go_enter Tryd.func5, Tryd.ntmps5
    go_wp2_with fail
    refine (works_any _ (HTT.out _ (Below.refl _ _))).mono ?_
    rintro e w1 ⟨rfl, hb1⟩
    have HB := Lib.hid hb1
    clear hb1
    go_wp2_with fail
    refine (KB.out _ HB.out).mono ?_
    rintro e w2 ⟨rfl, hb1⟩
    replace HB := Lib.hid (later HB.out hb1)
    clear hb1
    go_wp2_with fail
    refine (KPB.out _ HB.out).mono ?_
    rintro e w3 ⟨rfl, hb1⟩
    replace HB := Lib.hid (later HB.out hb1)
    clear hb1
    go_wp2_with fail
    go_loopw [7] (fun v7 wr => ∃ k : Nat, 1 ≤ k ∧ k ≤ 4 ∧ v7 = .int .i64 k ∧ Below w.heap.size w wr) (fun v7 _ => 4 - (intOf v7).toNat)
    case atStart => exact ⟨1, by omega, by omega, rfl, HB.out⟩
    case round =>
      clear HB
      obtain ⟨k, hk1, hk4, rfl, ho⟩ := hrel
      have HB := Lib.hid ho
      clear ho
      by_cases hk : k ≤ 3
      · obtain ⟨Y, hY, y1, y2, y3⟩ := HKG.out k hk1 hk
        have z1 : ¬ (Y.size : Int) < (X.size : Int) := by omega
        by_cases hYX : Y.size = X.size
        · have z2 : (Y.size : Int) = (X.size : Int) := by omega
          have z3 : ¬ (k : Int) > b := by have := y3 hYX; omega
          have hk' : (k : Int) ≤ 3 := by omega
          clear y3
          go_wp2_with fail
          refine (hY.out _ HB.out).mono ?_
          rintro e w4 ⟨rfl, hb1⟩
          replace HB := Lib.hid (later HB.out hb1)
          clear hb1
          go_wp2_with fail
          go_roundw
          case rel => exact ⟨k + 1, by omega, by omega, by go_num, HB.out⟩
          case measure => simp [intOf]; omega
        · have z2 : ¬ (Y.size : Int) = (X.size : Int) := by omega
          have hk' : (k : Int) ≤ 3 := by omega
          clear y3
          go_wp2_with fail
          refine (hY.out _ HB.out).mono ?_
          rintro e w4 ⟨rfl, hb1⟩
          replace HB := Lib.hid (later HB.out hb1)
          clear hb1
          go_wp2_with fail
          go_roundw
          case rel => exact ⟨k + 1, by omega, by omega, by go_num, HB.out⟩
          case measure => simp [intOf]; omega
      · have hk' : ¬ (k : Int) ≤ 3 := by omega
        go_wp2_with fail
        go_ret
        exact ⟨rfl, HB.out⟩
  · obtain ⟨hb0, hall⟩ := worst hm
    rw [hb0] at KB
    have KP0 := KP 0
    have hno := @putC_1 0 l (by rw [hall 0]; decide)
    rw [hno, hall 0] at KP0
    have e0 : bs [] = ⟨#[]⟩ := rfl
    rw [e0] at KP0
    have hso : LabW.sortedL l = false ∨ (LabW.sortedL l = true ∧ (n : Int) > 200) := by
      rw [sorted_eq]
      cases hs : ChM.sorted l with
      | false => exact .inl rfl
      | true =>
        refine .inr ⟨rfl, ?_⟩
        have : ¬ l.length ≤ 200 := fun h => hm ⟨hs, h⟩
        omega
    have KS : Hid (∀ W, Below w.heap.size w W → Calls Tryd.prog 13 #[.slice A n c] W fun e w' => e = .returned (.bool (LabW.sortedL l)) ∧ Below W.heap.size W w') := Lib.hid (fun W h => sorted_any A n c l W (HL.out.later h))
    clear hm hln hok KP hb0 hall hno e0
    rcases hso with hs | ⟨hs, hn⟩
    all_goals (
      rw [hs] at KS
      clear hs
      go_enter Tryd.func5, Tryd.ntmps5
      go_wp2_with fail
      refine (works_any _ (HTT.out _ (Below.refl _ _))).mono ?_
      rintro e w1 ⟨rfl, hb1⟩
      have HB := Lib.hid hb1
      clear hb1
      go_wp2_with fail
      refine (KB.out _ HB.out).mono ?_
      rintro e w2 ⟨rfl, hb1⟩
      replace HB := Lib.hid (later HB.out hb1)
      clear hb1
      go_wp2_with fail
      refine (KP0.out _ HB.out).mono ?_
      rintro e w3 ⟨rfl, hb1⟩
      replace HB := Lib.hid (later HB.out hb1)
      clear hb1
      go_wp2_with fail
      refine (KS.out _ HB.out).mono ?_
      rintro e w4 ⟨rfl, hb1⟩
      replace HB := Lib.hid (later HB.out hb1)
      clear hb1
      go_wp2_with fail
      go_ret
      exact ⟨rfl, HB.out⟩)
end Go.Proofs.YtdidengokijcjaaDoor.ChW
/-
  HOW A ROW OF SAMPLES IS OPENED; the walks of chapter 11 at whatever arguments.
-/
namespace Go.Proofs.YtdidengokijcjaaDoor
open Go.RowKit Go.Shelf LabM Go.ChangeShapes Go.WideShapes Go.Deep LabW
section
variable {H : Type} {enc : TypeId × Value → H} {w : World} {base : Nat} {spare : Nat → Bool} {held : Bool}
theorem dec_sam : ∀ n cs y, DataW.trod enc Tryd.prog w base spare held n 37 cs = some y → ∃ x, cs = encS x ∧ okS x := by
  intro n cs y h
  obtain ⟨hl, hf⟩ := trod_cells Tryd.underlying37 (by kernel_rfl) (by kernel_rfl) h
  obtain ⟨v0, n0, y0, hc0, ht0⟩ := hf 0 _ rfl
  obtain ⟨v1, n1, y1, hc1, ht1⟩ := hf 1 _ rfl
  obtain ⟨a, ha, -, wa⟩ := DataW.trod_int Tryd.underlying2 ht0
  obtain ⟨b, hb, -, wb⟩ := DataW.trod_int Tryd.underlying35 ht1
  obtain ⟨b0, b1⟩ := i64_of wa
  obtain ⟨x, hx, rfl⟩ := u64_of wb
  have hl2 : cs.length = 2 := hl
  match cs, hl2 with
  | [c0, c1], _ =>
    simp at hc0 hc1 ha hb
    exact ⟨(a, x), by unfold encS; simp [hc0, hc1, ha, hb], b0, b1, by omega, by show (x : Int) < _; omega⟩
variable {a0 : Option Addr} {len cap : Nat} {d : DataW H} {ps : List MemPlace}
theorem open_slice_of_api_Sample (h : DataW.Trod enc Tryd.prog w base spare held 22 (.slice a0 len cap) d ps) : ∃ l, Comes w 2 encS okS a0 len cap l :=
  open_comes Tryd.underlying22 (by kernel_rfl) (by decide) encS okS (fun _ => rfl) dec_sam h
end
end Go.Proofs.YtdidengokijcjaaDoor
