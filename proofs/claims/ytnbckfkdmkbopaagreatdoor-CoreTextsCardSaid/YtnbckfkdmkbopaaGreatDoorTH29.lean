/-
  Parse's deferred closure. No condition beyond each lemma's own.
  The scanner's small functions: letter, digit, space, take, run. No condition beyond each lemma's own.
-/
import Derived.Test.YtnbckfkdmkbopaaGreatDoorTH28
import Derived.Recover
import Derived.Test.YtnbckfkdmkbopaaGreatDoorTH04
import Derived.Test.YtnbckfkdmkbopaaGreatDoorTH05
set_option autoImplicit false
namespace Go.Proofs.YtnbckfkdmkbopaaGreatDoor
open Go Go.RowKit

set_option linter.unusedSimpArgs false
set_option linter.unusedSimpArgs false
set_option linter.unusedSimpArgs false
set_option linter.unusedSimpArgs false
set_option maxRecDepth 100000 in
set_option maxHeartbeats 400000 in
theorem catch_panicking (s q : Nat) (older : List PanicEntry) (w : World) (c0 c1 c2 c3 c4 c5 c6 c7 c8 c9 c10 c11 c12 c13 : Value) (x : Int) (hs : w.heap[s]? = some (.cells #[c0, c1, c2, c3, c4, c5, c6, c7, c8, c9, c10, c11, c12, c13] 61 (0, 0))) (hq : w.heap[q]? = some (.cells #[.int .i64 x] 44 (0, 0))) (hsq : s ≠ q) :
    CallsD Tryz.prog 37 #[.pointer (some ⟨s, 0, none⟩), .pointer (some ⟨q, 0, none⟩)] (.panicking ({ v := .iface 97 (.agg #[]), recovered := false } :: older)) w fun e u' w' =>
      e = .returned (.tuple #[]) ∧ u' = .panicking ({ v := .iface 97 (.agg #[]), recovered := true } :: older) ∧ Chg (fun k => k = s ∨ k = q) w w' ∧ w'.heap[s]? = some (.cells zeroSt.toArray 61 (0, 0)) ∧ w'.heap[q]? = some (.cells #[.int .i64 30] 44 (0, 0)) := by
  have hsl := lt_of_heap hs
  have hql := lt_of_heap hq
  refine callsD_of_wpS Tryz.func37 rfl fun c₀ cs hu => ?_
  apply wpS_seq
  apply wpS_region
  have hrc : recoverD (c₀ :: cs) = some (.iface 97 (.agg #[]), { c₀ with mode := .panicking ({ v := .iface 97 (.agg #[]), recovered := true } :: older) } :: cs) := by simp only [recoverD, hu]
  show wpOpsS _ _ _ [0, 1, 2, 3, 4, 5, 6, 7] _ _ _
  generalize hA : Act.mk _ _ = A
  obtain rfl : A = ⟨#[.pointer (some ⟨s, 0, none⟩), .pointer (some ⟨q, 0, none⟩), undef, undef, undef, undef, undef, undef, undef, undef, undef], []⟩ := hA.symm.trans (by kernel_rfl)
  clear hA
  rw [wpOpsS]
  simp only [List.getElem?_toArray, List.getElem?_cons_zero, List.getElem?_cons_succ, Region.wanted, if_true]
  generalize hR : Sem.run _ _ _ = R
  obtain rfl : R = .ok .recover w := hR.symm.trans (by kernel_rfl)
  clear hR
  simp only [hrc, Act.put, List.setIfInBounds_toArray, List.set_cons_zero, List.set_cons_succ]
  clear hrc
  rw [wpOpsS]
  simp only [List.getElem?_toArray, List.getElem?_cons_zero, List.getElem?_cons_succ, Region.wanted, if_true]
  generalize hR : Sem.run _ _ _ = R
  obtain rfl : R = .ok (.value (.tuple #[.agg #[], .bool true])) w := hR.symm.trans (by kernel_rfl)
  clear hR
  simp only [Oper.upon, Act.put, List.setIfInBounds_toArray, List.set_cons_zero, List.set_cons_succ]
  rw [wpOpsS]
  simp only [List.getElem?_toArray, List.getElem?_cons_zero, List.getElem?_cons_succ, Region.wanted, if_true]
  generalize hR : Sem.run _ _ _ = R
  obtain rfl : R = .ok (.value (.tuple #[.agg #[], .bool true])) w := hR.symm.trans (by kernel_rfl)
  clear hR
  simp only [Oper.upon, Act.put, List.setIfInBounds_toArray, List.set_cons_zero, List.set_cons_succ]
  rw [wpOpsS]
  simp only [List.getElem?_toArray, List.getElem?_cons_zero, List.getElem?_cons_succ, Region.wanted, if_true]
  generalize hR : Sem.run _ _ _ = R
  obtain rfl : R = .ok (.value (.agg #[])) w := hR.symm.trans (by kernel_rfl)
  clear hR
  simp only [Oper.upon, Act.put, List.setIfInBounds_toArray, List.set_cons_zero, List.set_cons_succ]
  rw [wpOpsS]
  simp only [List.getElem?_toArray, List.getElem?_cons_zero, List.getElem?_cons_succ, Region.wanted, if_true]
  generalize hR : Sem.run _ _ _ = R
  obtain rfl : R = .ok (.value (.bool true)) w := hR.symm.trans (by kernel_rfl)
  clear hR
  simp only [Oper.upon, Act.put, List.setIfInBounds_toArray, List.set_cons_zero, List.set_cons_succ]
  rw [wpOpsS]
  simp only [List.getElem?_toArray, List.getElem?_cons_zero, List.getElem?_cons_succ, Region.wanted, if_true]
  generalize hR : Sem.run _ _ _ = R
  obtain rfl : R = .ok (.value (.pointer (some ⟨w.heap.size, 0, none⟩))) (w.alloc (.cells #[] 97)) := hR.symm.trans (by kernel_rfl)
  clear hR
  simp only [Oper.upon, Act.put, List.setIfInBounds_toArray, List.set_cons_zero, List.set_cons_succ]
  rw [wpOpsS]
  simp only [List.getElem?_toArray, List.getElem?_cons_zero, List.getElem?_cons_succ, Region.wanted, if_true]
  generalize hR : Sem.run _ _ _ = R
  obtain rfl : R = .ok .skip (w.alloc (.cells #[] 97)) := hR.symm.trans (by kernel_rfl)
  clear hR
  simp only [Oper.upon, Act.put, List.setIfInBounds_toArray, List.set_cons_zero, List.set_cons_succ]
  rw [wpOpsS]
  simp only [List.getElem?_toArray, List.getElem?_cons_zero, List.getElem?_cons_succ, Region.wanted, if_true]
  generalize hR : Sem.run _ _ _ = R
  obtain rfl : R = .ok (.value (.bool true)) (w.alloc (.cells #[] 97)) := hR.symm.trans (by kernel_rfl)
  clear hR
  simp only [Oper.upon, Act.put, List.setIfInBounds_toArray, List.set_cons_zero, List.set_cons_succ]
  refine wpS_of_wp ?_
  have X1 : Chg NoB w (w.alloc (.cells #[] 97)) := (Chg.refl NoB w).alloc _
  have hs1 := X1.heap hs (fun h => h)
  have hq1 := X1.heap hq (fun h => h)
  generalize hW : w.alloc (.cells #[] 97) = W at X1 hs1 hq1 ⊢
  clear hW
  obtain ⟨z0, z1, z2, z3, z4, z5, z6, z7, z8, z9, z10, z11, z12, z13⟩ := cells14 hs1
  have zq : W.cell? ⟨q, 0, none⟩ = some (.int .i64 x) := cell_of_row W q 0 _ _ _ hq1
  have fs : ∀ o, W.frozen? ⟨s, o, none⟩ = false := fun o => frozen_of_row _ _ o _ _ hs1
  have fq : ∀ o, W.frozen? ⟨q, o, none⟩ = false := fun o => frozen_of_row _ _ o _ _ hq1
  have hqs : ¬ q = s := fun e => hsq e.symm
  have X14 := chg_set14 W s (.int .i64 0) (sv []) (sv []) (.slice none 0 0) (.slice none 0 0) (.slice none 0 0) (.slice none 0 0) (.slice none 0 0) (.slice none 0 0) (.slice none 0 0) (.slice none 0 0) (.int .i64 0) (.slice none 0 0) (.bool false)
  have h14 := set14_heap W s _ _ (.int .i64 0) (sv []) (sv []) (.slice none 0 0) (.slice none 0 0) (.slice none 0 0) (.slice none 0 0) (.slice none 0 0) (.slice none 0 0) (.slice none 0 0) (.slice none 0 0) (.int .i64 0) (.slice none 0 0) (.bool false) rfl hs1
  have hq14 := X14.heap hq1 hqs
  have HX14 := Lib.hid X14
  have H14 := Lib.hid h14
  have HQ14 := Lib.hid hq14
  clear X14 h14 hq14
  go_wp2
  refine ⟨rfl, _, rfl, _, results_none rfl _ _ _, rfl, rfl, ?_, ?_, ?_⟩
  · exact ((chg_no X1).trans HX14.out (fun k h => .inl (.inl h))).setCell (p := ⟨q, 0, none⟩) (.inl (.inr rfl)) _
  · exact (hset_ne (by exact hsq)).trans H14.out
  · exact hset_eq (i := 0) HQ14.out
set_option maxRecDepth 100000 in
set_option maxHeartbeats 400000 in
theorem catch_idle (s q : Nat) (w : World) :
    CallsD Tryz.prog 37 #[.pointer (some ⟨s, 0, none⟩), .pointer (some ⟨q, 0, none⟩)] .returning w fun e u' w' =>
      e = .returned (.tuple #[]) ∧ u' = .returning ∧ Chg NoB w w' := by
  refine callsD_of_wpS Tryz.func37 rfl fun c₀ cs hu => ?_
  apply wpS_seq
  apply wpS_region
  have hrc : recoverD (c₀ :: cs) = none := by simp only [recoverD, hu]
  show wpOpsS _ _ _ [0, 1, 2, 3, 4, 5, 6, 7] _ _ _
  generalize hA : Act.mk _ _ = A
  obtain rfl : A = ⟨#[.pointer (some ⟨s, 0, none⟩), .pointer (some ⟨q, 0, none⟩), undef, undef, undef, undef, undef, undef, undef, undef, undef], []⟩ := hA.symm.trans (by kernel_rfl)
  clear hA
  rw [wpOpsS]
  simp only [List.getElem?_toArray, List.getElem?_cons_zero, List.getElem?_cons_succ, Region.wanted, if_true]
  generalize hR : Sem.run _ _ _ = R
  obtain rfl : R = .ok .recover w := hR.symm.trans (by kernel_rfl)
  clear hR
  simp only [hrc, Act.put, List.setIfInBounds_toArray, List.set_cons_zero, List.set_cons_succ]
  clear hrc
  rw [wpOpsS]
  simp only [List.getElem?_toArray, List.getElem?_cons_zero, List.getElem?_cons_succ, Region.wanted, if_true]
  generalize hR : Sem.run _ _ _ = R
  obtain rfl : R = .ok (.value (.tuple #[.agg #[], .bool false])) w := hR.symm.trans (by kernel_rfl)
  clear hR
  simp only [Oper.upon, Act.put, List.setIfInBounds_toArray, List.set_cons_zero, List.set_cons_succ]
  rw [wpOpsS]
  simp only [List.getElem?_toArray, List.getElem?_cons_zero, List.getElem?_cons_succ, Region.wanted, if_true]
  generalize hR : Sem.run _ _ _ = R
  obtain rfl : R = .ok (.value (.tuple #[.agg #[], .bool false])) w := hR.symm.trans (by kernel_rfl)
  clear hR
  simp only [Oper.upon, Act.put, List.setIfInBounds_toArray, List.set_cons_zero, List.set_cons_succ]
  rw [wpOpsS]
  simp only [List.getElem?_toArray, List.getElem?_cons_zero, List.getElem?_cons_succ, Region.wanted, if_true]
  generalize hR : Sem.run _ _ _ = R
  obtain rfl : R = .ok (.value (.agg #[])) w := hR.symm.trans (by kernel_rfl)
  clear hR
  simp only [Oper.upon, Act.put, List.setIfInBounds_toArray, List.set_cons_zero, List.set_cons_succ]
  rw [wpOpsS]
  simp only [List.getElem?_toArray, List.getElem?_cons_zero, List.getElem?_cons_succ, Region.wanted, if_true]
  generalize hR : Sem.run _ _ _ = R
  obtain rfl : R = .ok (.value (.bool false)) w := hR.symm.trans (by kernel_rfl)
  clear hR
  simp only [Oper.upon, Act.put, List.setIfInBounds_toArray, List.set_cons_zero, List.set_cons_succ]
  rw [wpOpsS]
  simp only [List.getElem?_toArray, List.getElem?_cons_zero, List.getElem?_cons_succ, Region.wanted, if_true]
  generalize hR : Sem.run _ _ _ = R
  obtain rfl : R = .ok (.value (.pointer (some ⟨w.heap.size, 0, none⟩))) (w.alloc (.cells #[] 97)) := hR.symm.trans (by kernel_rfl)
  clear hR
  simp only [Oper.upon, Act.put, List.setIfInBounds_toArray, List.set_cons_zero, List.set_cons_succ]
  rw [wpOpsS]
  simp only [List.getElem?_toArray, List.getElem?_cons_zero, List.getElem?_cons_succ, Region.wanted, if_true]
  generalize hR : Sem.run _ _ _ = R
  obtain rfl : R = .ok .skip (w.alloc (.cells #[] 97)) := hR.symm.trans (by kernel_rfl)
  clear hR
  simp only [Oper.upon, Act.put, List.setIfInBounds_toArray, List.set_cons_zero, List.set_cons_succ]
  rw [wpOpsS]
  simp only [List.getElem?_toArray, List.getElem?_cons_zero, List.getElem?_cons_succ, Region.wanted, if_true]
  generalize hR : Sem.run _ _ _ = R
  obtain rfl : R = .ok (.value (.bool false)) (w.alloc (.cells #[] 97)) := hR.symm.trans (by kernel_rfl)
  clear hR
  simp only [Oper.upon, Act.put, List.setIfInBounds_toArray, List.set_cons_zero, List.set_cons_succ]
  refine wpS_of_wp ?_
  have X1 : Chg NoB w (w.alloc (.cells #[] 97)) := (Chg.refl NoB w).alloc _
  generalize hW : w.alloc (.cells #[] 97) = W at X1 ⊢
  clear hW
  go_wp2
  exact ⟨rfl, _, by rw [← hu], _, results_none rfl _ _ _, rfl, rfl, X1⟩
end Go.Proofs.YtnbckfkdmkbopaaGreatDoor

set_option autoImplicit false
namespace Go.Proofs.YtnbckfkdmkbopaaGreatDoor
open Go Go.RowKit

theorem or_u8 : ∀ c : Fin 256, bits .or .u8 (c.val : Int) 32 = ((UInt8.ofNat c.val ||| 32).toNat : Int) := by decide +kernel
theorem or_u8' (c : UInt8) : bits .or .u8 (c.toNat : Int) 32 = ((c ||| 32).toNat : Int) := by
  have := or_u8 ⟨c.toNat, c.toNat_lt⟩
  simpa using this
theorem u8_le (a b : UInt8) : decide (a ≤ b) = decide ((a.toNat : Int) ≤ (b.toNat : Int)) := by
  rw [decide_eq_decide, UInt8.le_iff_toNat_le]; omega
theorem u8_eq (a b : UInt8) : (a == b) = ((a.toNat : Int) == (b.toNat : Int)) := by
  rw [Bool.eq_iff_iff]
  simp only [beq_iff_eq]
  constructor
  · intro h; rw [h]
  · intro h; exact UInt8.toNat_inj.1 (by omega)
theorem letB_eq (c : UInt8) : letB c = ((c.toNat : Int) == 95 || (decide (97 ≤ ((c.toNat ||| 32 : Nat) : Int)) && decide (((c.toNat ||| 32 : Nat) : Int) ≤ 122))) := by
  unfold letB
  rw [u8_le, u8_le, u8_eq]
  simp
theorem digB_eq (c : UInt8) : digB c = (decide (48 ≤ (c.toNat : Int)) && decide ((c.toNat : Int) ≤ 57)) := by
  unfold digB
  rw [u8_le, u8_le]
  rfl
theorem letter_any (c : UInt8) (w : World) : Calls Tryz.prog 96 #[.int .u8 (c.toNat : Int)] w fun e w' => e = .returned (.bool (letB c)) ∧ w = w' := by
  have HE := Lib.hid (letB_eq c)
  have ho := or_u8' c
  go_enter Tryz.func96, Tryz.ntmps96
  go_wp2
  all_goals
    go_ret
    refine ⟨ret_bool ?_, rfl⟩
    rw [HE.out]
    simp_all
    try omega
theorem digit_any (c : UInt8) (w : World) : Calls Tryz.prog 98 #[.int .u8 (c.toNat : Int)] w fun e w' => e = .returned (.bool (digB c)) ∧ w = w' := by
  have HE := Lib.hid (digB_eq c)
  go_enter Tryz.func98, Tryz.ntmps98
  go_wp2
  all_goals
    go_ret
    refine ⟨ret_bool ?_, rfl⟩
    rw [HE.out]
    simp_all
    try omega
theorem word1_any (c : UInt8) (w : World) : Calls Tryz.prog 142 #[.int .u8 (c.toNat : Int)] w fun e w' => e = .returned (.bool (wordB c)) ∧ w = w' := by
  cases hl : letB c with
  | true =>
    have HL := Lib.hid hl
    clear hl
    go_enter Tryz.func142, Tryz.ntmps142
    go_wp2_with (first | (go_at_call 96; refine (letter_any c _).mono ?_; rw [HL.out]; rintro e w' ⟨rfl, rfl⟩) | (go_at_call 98; refine (digit_any c _).mono ?_; rintro e w' ⟨rfl, rfl⟩))
    go_ret
    exact ⟨ret_bool (by unfold wordB; rw [HL.out]; rfl), rfl⟩
  | false =>
    have HL := Lib.hid hl
    clear hl
    go_enter Tryz.func142, Tryz.ntmps142
    go_wp2_with (first | (go_at_call 96; refine (letter_any c _).mono ?_; rw [HL.out]; rintro e w' ⟨rfl, rfl⟩) | (go_at_call 98; refine (digit_any c _).mono ?_; rintro e w' ⟨rfl, rfl⟩))
    go_ret
    exact ⟨ret_bool (by unfold wordB; rw [HL.out]; rfl), rfl⟩
theorem digit_is {c : UInt8} {b : Bool} (h : digB c = b) (w : World) : Calls Tryz.prog 98 #[.int .u8 (c.toNat : Int)] w fun e w' => e = .returned (.bool b) ∧ w = w' := by rw [← h]; exact digit_any c w
theorem letter_is {c : UInt8} {b : Bool} (h : letB c = b) (w : World) : Calls Tryz.prog 96 #[.int .u8 (c.toNat : Int)] w fun e w' => e = .returned (.bool b) ∧ w = w' := by rw [← h]; exact letter_any c w
theorem word1_is {c : UInt8} {b : Bool} (h : wordB c = b) (w : World) : Calls Tryz.prog 142 #[.int .u8 (c.toNat : Int)] w fun e w' => e = .returned (.bool b) ∧ w = w' := by rw [← h]; exact word1_any c w
theorem sp_idx : ∀ c : Fin 256, decide (0 ≤ Lib.indexByte [32, 9, 10, 13] (UInt8.ofNat c.val)) = spB (UInt8.ofNat c.val) := by decide +kernel
theorem sp_idx' (c : UInt8) : decide (0 ≤ Lib.indexByte [32, 9, 10, 13] c) = spB c := by
  have := sp_idx ⟨c.toNat, c.toNat_lt⟩
  simpa using this
/-- where the run of bytes that may be ends -/
def runTo (p : UInt8 → Bool) (l : Str) (k : Nat) : Nat := k + ((l.drop k).takeWhile p).length
theorem runTo_step {p : UInt8 → Bool} {l : Str} {k : Nat} {c : UInt8} (h : l[k]? = some c) (hp : p c = true) : runTo p l (k + 1) = runTo p l k := by
  obtain ⟨hk, rfl⟩ := List.getElem?_eq_some_iff.1 h
  unfold runTo
  rw [List.drop_eq_getElem_cons hk, List.takeWhile_cons, if_pos hp]
  simp; omega
theorem runTo_stop {p : UInt8 → Bool} {l : Str} {k : Nat} {c : UInt8} (h : l[k]? = some c) (hp : p c = false) : runTo p l k = k := by
  obtain ⟨hk, rfl⟩ := List.getElem?_eq_some_iff.1 h
  unfold runTo
  rw [List.drop_eq_getElem_cons hk, List.takeWhile_cons, if_neg (by simp [hp])]
  simp
theorem runTo_end {p : UInt8 → Bool} {l : Str} {k : Nat} (h : l.length ≤ k) : runTo p l k = k := by
  unfold runTo
  rw [List.drop_of_length_le h]
  simp
theorem runTo_le {p : UInt8 → Bool} {l : Str} {k : Nat} (h : k ≤ l.length) : k ≤ runTo p l k ∧ runTo p l k ≤ l.length := by
  unfold runTo
  have := (List.takeWhile_sublist (l := l.drop k) p).length_le
  simp at this
  omega
theorem runTo_drop (p : UInt8 → Bool) (l : Str) (k : Nat) : l.drop (runTo p l k) = (l.drop k).dropWhile p := by
  unfold runTo
  rw [← List.drop_drop]
  have : (l.drop k).takeWhile p ++ (l.drop k).dropWhile p = l.drop k := List.takeWhile_append_dropWhile
  generalize (l.drop k).takeWhile p = a at *
  generalize (l.drop k).dropWhile p = b at *
  rw [← this, List.drop_left]
/-- a scanner over a text, at a place -/
abbrev ScanAt (w : World) (c : Nat) (l : Str) (k : Nat) : Prop := w.heap[c]? = some (.cells #[sv l, .int .i64 k] 131 (0, 0))
abbrev OneB (c : Nat) : Nat → Prop := fun k => k = c
theorem run_extract (p : UInt8 → Bool) (l : Str) (k : Nat) : l.extract k (runTo p l k) = (l.drop k).takeWhile p := by
  unfold runTo
  rw [List.extract_eq_take_drop, Nat.add_sub_cancel_left]
  have : (l.drop k).takeWhile p ++ (l.drop k).dropWhile p = l.drop k := List.takeWhile_append_dropWhile
  generalize (l.drop k).takeWhile p = a at *
  generalize (l.drop k).dropWhile p = b at *
  rw [← this, List.take_left]
theorem ba_extract (l : Str) (i j : Nat) : (ByteArray.mk l.toArray).extract i j = ⟨(l.extract i j).toArray⟩ := by
  rw [ByteArray.extract_mk]
def scPos (w : World) (c : Nat) : Nat := match w.cell? ⟨c, 1, none⟩ with
  | some (.int _ n) => n.toNat
  | _ => 0
theorem scPos_at {w : World} {c k : Nat} {l : Str} (h : ScanAt w c l k) : scPos w c = k := by
  have := cell_of_row w c 1 _ _ _ h
  unfold scPos
  rw [this]
  rfl
theorem scan_set {w : World} {c k : Nat} {l : Str} (h : ScanAt w c l k) (n : Nat) : ScanAt (w.setCell ⟨c, 1, none⟩ (.int .i64 n)) c l n := by
  have := hset_eq (i := 1) (v := .int .i64 n) h
  exact this
theorem sp_index (x : UInt8) (w : World) : Calls Tryz.prog 95 #[.string ⟨#[32, 9, 10, 13]⟩, .int .u8 (x.toNat : Int)] w fun e w' => e = .returned (.int .i64 (Lib.indexByte [32, 9, 10, 13] x)) ∧ w = w' := by
  refine (strings_IndexByte ⟨#[32, 9, 10, 13]⟩ x.toNat w).mono ?_
  rintro e w' ⟨rfl, rfl⟩
  exact ⟨by simp, rfl⟩
set_option maxRecDepth 100000 in
set_option maxHeartbeats 1000000 in
theorem space_any (l : Str) (c k : Nat) (w : World) (hk : k ≤ l.length) (hl : l.length ≤ 2048) (hc : ScanAt w c l k) :
    Calls Tryz.prog 63 #[.pointer (some ⟨c, 0, none⟩)] w fun e w' => e = .returned (.tuple #[]) ∧ Hid (ScanAt w' c l (runTo spB l k) ∧ Chg (OneB c) w w') := by
  have HC := Lib.hid hc
  clear hc
  go_enter Tryz.func63, Tryz.ntmps63
  go_wp2
  go_loopw [2] (fun _ wr => ∃ j : Nat, j ≤ l.length ∧ Hid (runTo spB l j = runTo spB l k) ∧ Hid (ScanAt wr c l j) ∧ Hid (Chg (OneB c) w wr)) (fun _ wr => l.length - scPos wr c)
  case atStart => exact ⟨k, hk, Lib.hid rfl, HC, Lib.hid (Chg.refl _ _)⟩
  case round =>
    obtain ⟨j, hj, HR, HS, HX⟩ := hrel
    have c0 : wr.cell? ⟨c, 0, none⟩ = some (sv l) := cell_of_row wr c 0 _ _ _ HS.out
    have c1 : wr.cell? ⟨c, 1, none⟩ = some (.int .i64 j) := cell_of_row wr c 1 _ _ _ HS.out
    have f1 : wr.frozen? ⟨c, 1, none⟩ = false := by simp [World.frozen?, HS.out]
    by_cases hlt : j < l.length
    · obtain ⟨x, hx⟩ : ∃ x, l[j]? = some x := ⟨_, List.getElem?_eq_getElem hlt⟩
      have hb := ba_get hx
      have HG := Lib.hid hx
      have hi := sp_idx' x
      clear hx
      cases hsp : spB x with
      | true =>
        have HP := Lib.hid hsp
        rw [hsp] at hi
        clear hsp
        go_wp2
        go_quiet ((go_at_call 95; exact quiet_g ⟨_, rfl⟩ (sp_index x _)))
        go_wp2
        have HT := scan_set (w := wr.drewN nq) HS.out (j + 1)
        refine ⟨⟨j + 1, by omega, Lib.hid ((runTo_step HG.out HP.out).trans HR.out), Lib.hid HT, Lib.hid ((HX.out.drewN _).setCell (.inl rfl) _)⟩, ?_⟩
        have e1 := scPos_at HT
        have e2 := scPos_at HS.out
        push_cast at e1
        omega
      | false =>
        have HP := Lib.hid hsp
        rw [hsp] at hi
        clear hsp
        go_wp2
        go_quiet ((go_at_call 95; exact quiet_g ⟨_, rfl⟩ (sp_index x _)))
        go_wp2
        go_end0
        exact ⟨rfl, Lib.hid ⟨by rw [← HR.out, runTo_stop HG.out HP.out]; exact HS.out, HX.out.drewN _⟩⟩
    · go_wp2
      go_quiet (fail)
      go_wp2
      go_end0
      exact ⟨rfl, Lib.hid ⟨by rw [← HR.out, runTo_end (by omega)]; exact HS.out, HX.out.drewN _⟩⟩
set_option maxRecDepth 100000 in
set_option maxHeartbeats 1000000 in
theorem run_digB (l : Str) (c k : Nat) (w : World) (hk : k ≤ l.length) (hl : l.length ≤ 2048) (hc : ScanAt w c l k) :
    Calls Tryz.prog 141 #[.pointer (some ⟨c, 0, none⟩), .func (.func 98) #[] #[]] w fun e w' => e = .returned (sv ((l.drop k).takeWhile digB)) ∧ Hid (ScanAt w' c l (runTo digB l k) ∧ Chg (OneB c) w w') := by
  have HC := Lib.hid hc
  have d1 : w.cell? ⟨c, 1, none⟩ = some (.int .i64 k) := cell_of_row w c 1 _ _ _ hc
  clear hc
  go_enter Tryz.func141, Tryz.ntmps141
  go_wp2
  clear d1
  go_loopw [10] (fun _ wr => ∃ j : Nat, j ≤ l.length ∧ Hid (runTo digB l j = runTo digB l k) ∧ Hid (ScanAt wr c l j) ∧ Hid (Chg (OneB c) w wr)) (fun _ wr => l.length - scPos wr c)
  case atStart => exact ⟨k, hk, Lib.hid rfl, HC, Lib.hid (Chg.refl _ _)⟩
  case round =>
    obtain ⟨j, hj, HR, HS, HX⟩ := hrel
    have c0 : wr.cell? ⟨c, 0, none⟩ = some (sv l) := cell_of_row wr c 0 _ _ _ HS.out
    have c1 : wr.cell? ⟨c, 1, none⟩ = some (.int .i64 j) := cell_of_row wr c 1 _ _ _ HS.out
    have f1 : wr.frozen? ⟨c, 1, none⟩ = false := by simp [World.frozen?, HS.out]
    have HE : Hid (j = runTo digB l k → l.extract k j = (l.drop k).takeWhile digB) := Lib.hid (fun h => by rw [h]; exact run_extract _ _ _)
    have hkj : Hid (j = runTo digB l k → k ≤ j) := Lib.hid (fun h => by rw [h]; exact (runTo_le hk).1)
    by_cases hlt : j < l.length
    · obtain ⟨x, hx⟩ : ∃ x, l[j]? = some x := ⟨_, List.getElem?_eq_getElem hlt⟩
      have hb := ba_get hx
      have HG := Lib.hid hx
      clear hx
      cases hsp : digB x with
      | true =>
        have HP := Lib.hid hsp
        clear hsp
        go_wp2
        go_quiet ((go_at_call 98; exact quiet_g ⟨_, rfl⟩ (digit_is HP.out _)))
        go_wp2
        have HT := scan_set (w := wr.drewN nq) HS.out (j + 1)
        refine ⟨⟨j + 1, by omega, Lib.hid ((runTo_step HG.out HP.out).trans HR.out), Lib.hid HT, Lib.hid ((HX.out.drewN _).setCell (.inl rfl) _)⟩, ?_⟩
        have e1 := scPos_at HT
        have e2 := scPos_at HS.out
        push_cast at e1
        omega
      | false =>
        have HP := Lib.hid hsp
        have HJ : Hid (j = runTo digB l k) := Lib.hid (by rw [← HR.out, runTo_stop HG.out HP.out])
        clear hsp
        have hkj' := hkj.out HJ.out
        go_wp2
        go_quiet ((go_at_call 98; exact quiet_g ⟨_, rfl⟩ (digit_is HP.out _)))
        go_wp2
        go_quiet (fail)
        go_wp2
        go_ret
        refine ⟨ret_str ?_, Lib.hid ⟨by rw [← HJ.out]; exact HS.out, (HX.out.drewN _).drewN _⟩⟩
        rw [← HE.out HJ.out]
        exact ba_extract _ _ _
    · have HJ : Hid (j = runTo digB l k) := Lib.hid (by rw [← HR.out, runTo_end (by omega)])
      have hkj' := hkj.out HJ.out
      go_wp2
      go_quiet (fail)
      go_wp2
      go_quiet (fail)
      go_wp2
      go_ret
      refine ⟨ret_str ?_, Lib.hid ⟨by rw [← HJ.out]; exact HS.out, (HX.out.drewN _).drewN _⟩⟩
      rw [← HE.out HJ.out]
      exact ba_extract _ _ _
set_option maxRecDepth 100000 in
set_option maxHeartbeats 1000000 in
theorem run_wordB (l : Str) (c k : Nat) (w : World) (hk : k ≤ l.length) (hl : l.length ≤ 2048) (hc : ScanAt w c l k) :
    Calls Tryz.prog 141 #[.pointer (some ⟨c, 0, none⟩), .func (.func 142) #[] #[]] w fun e w' => e = .returned (sv ((l.drop k).takeWhile wordB)) ∧ Hid (ScanAt w' c l (runTo wordB l k) ∧ Chg (OneB c) w w') := by
  have HC := Lib.hid hc
  have d1 : w.cell? ⟨c, 1, none⟩ = some (.int .i64 k) := cell_of_row w c 1 _ _ _ hc
  clear hc
  go_enter Tryz.func141, Tryz.ntmps141
  go_wp2
  clear d1
  go_loopw [10] (fun _ wr => ∃ j : Nat, j ≤ l.length ∧ Hid (runTo wordB l j = runTo wordB l k) ∧ Hid (ScanAt wr c l j) ∧ Hid (Chg (OneB c) w wr)) (fun _ wr => l.length - scPos wr c)
  case atStart => exact ⟨k, hk, Lib.hid rfl, HC, Lib.hid (Chg.refl _ _)⟩
  case round =>
    obtain ⟨j, hj, HR, HS, HX⟩ := hrel
    have c0 : wr.cell? ⟨c, 0, none⟩ = some (sv l) := cell_of_row wr c 0 _ _ _ HS.out
    have c1 : wr.cell? ⟨c, 1, none⟩ = some (.int .i64 j) := cell_of_row wr c 1 _ _ _ HS.out
    have f1 : wr.frozen? ⟨c, 1, none⟩ = false := by simp [World.frozen?, HS.out]
    have HE : Hid (j = runTo wordB l k → l.extract k j = (l.drop k).takeWhile wordB) := Lib.hid (fun h => by rw [h]; exact run_extract _ _ _)
    have hkj : Hid (j = runTo wordB l k → k ≤ j) := Lib.hid (fun h => by rw [h]; exact (runTo_le hk).1)
    by_cases hlt : j < l.length
    · obtain ⟨x, hx⟩ : ∃ x, l[j]? = some x := ⟨_, List.getElem?_eq_getElem hlt⟩
      have hb := ba_get hx
      have HG := Lib.hid hx
      clear hx
      cases hsp : wordB x with
      | true =>
        have HP := Lib.hid hsp
        clear hsp
        go_wp2
        go_quiet ((go_at_call 142; exact quiet_g ⟨_, rfl⟩ (word1_is HP.out _)))
        go_wp2
        have HT := scan_set (w := wr.drewN nq) HS.out (j + 1)
        refine ⟨⟨j + 1, by omega, Lib.hid ((runTo_step HG.out HP.out).trans HR.out), Lib.hid HT, Lib.hid ((HX.out.drewN _).setCell (.inl rfl) _)⟩, ?_⟩
        have e1 := scPos_at HT
        have e2 := scPos_at HS.out
        push_cast at e1
        omega
      | false =>
        have HP := Lib.hid hsp
        have HJ : Hid (j = runTo wordB l k) := Lib.hid (by rw [← HR.out, runTo_stop HG.out HP.out])
        clear hsp
        have hkj' := hkj.out HJ.out
        go_wp2
        go_quiet ((go_at_call 142; exact quiet_g ⟨_, rfl⟩ (word1_is HP.out _)))
        go_wp2
        go_quiet (fail)
        go_wp2
        go_ret
        refine ⟨ret_str ?_, Lib.hid ⟨by rw [← HJ.out]; exact HS.out, (HX.out.drewN _).drewN _⟩⟩
        rw [← HE.out HJ.out]
        exact ba_extract _ _ _
    · have HJ : Hid (j = runTo wordB l k) := Lib.hid (by rw [← HR.out, runTo_end (by omega)])
      have hkj' := hkj.out HJ.out
      go_wp2
      go_quiet (fail)
      go_wp2
      go_quiet (fail)
      go_wp2
      go_ret
      refine ⟨ret_str ?_, Lib.hid ⟨by rw [← HJ.out]; exact HS.out, (HX.out.drewN _).drewN _⟩⟩
      rw [← HE.out HJ.out]
      exact ba_extract _ _ _
end Go.Proofs.YtnbckfkdmkbopaaGreatDoor
