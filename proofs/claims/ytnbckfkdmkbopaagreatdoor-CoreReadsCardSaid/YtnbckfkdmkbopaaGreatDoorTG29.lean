/-
  Parse's deferred closure. No condition beyond each lemma's own.
-/
import Derived.Test.YtnbckfkdmkbopaaGreatDoorTG28
import Derived.Recover
set_option autoImplicit false
namespace Go.Proofs.YtnbckfkdmkbopaaGreatDoor
open Go Go.RowKit

set_option linter.unusedSimpArgs false
set_option linter.unusedSimpArgs false
set_option linter.unusedSimpArgs false
set_option linter.unusedSimpArgs false
set_option maxRecDepth 100000 in
set_option maxHeartbeats 400000 in
theorem catch_panicking (s q : Nat) (older : List PanicEntry) (w : World) (c0 c1 c2 c3 c4 c5 c6 c7 c8 c9 c10 c11 c12 c13 : Value) (x : Int) (hs : w.heap[s]? = some (.cells #[c0, c1, c2, c3, c4, c5, c6, c7, c8, c9, c10, c11, c12, c13] 61 (0, 0))) (hq : w.heap[q]? = some (.cells #[.int .i64 x] 44 (0, 0))) (hsq : s ≠ q) :
    CallsD Tryz.prog 37 #[.pointer (some ⟨s, 0, none⟩), .pointer (some ⟨q, 0, none⟩)] (.panicking ({ v := .iface 97 (.agg #[]), recovered := false } :: older)) w fun e u' w' =>
      e = .returned (.tuple #[]) ∧ u' = .panicking ({ v := .iface 97 (.agg #[]), recovered := true } :: older) ∧ Chg (fun k => k = s ∨ k = q) w w' ∧ w'.heap[s]? = some (.cells zeroSt.toArray 61 (0, 0)) ∧ w'.heap[q]? = some (.cells #[.int .i64 30] 44 (0, 0)) := by
  have hsl := lt_of_heap hs
  have hql := lt_of_heap hq
  refine callsD_of_wpS Tryz.func37 rfl fun c₀ cs hu => ?_
  apply wpS_seq
  apply wpS_region
  have hrc : recoverD (c₀ :: cs) = some (.iface 97 (.agg #[]), { c₀ with mode := .panicking ({ v := .iface 97 (.agg #[]), recovered := true } :: older) } :: cs) := by simp only [recoverD, hu]
  show wpOpsS _ _ _ [0, 1, 2, 3, 4, 5, 6, 7] _ _ _
  generalize hA : Act.mk _ _ = A
  obtain rfl : A = ⟨#[.pointer (some ⟨s, 0, none⟩), .pointer (some ⟨q, 0, none⟩), undef, undef, undef, undef, undef, undef, undef, undef, undef], []⟩ := hA.symm.trans (by kernel_rfl)
  clear hA
  rw [wpOpsS]
  simp only [List.getElem?_toArray, List.getElem?_cons_zero, List.getElem?_cons_succ, Region.wanted, if_true]
  generalize hR : Sem.run _ _ _ = R
  obtain rfl : R = .ok .recover w := hR.symm.trans (by kernel_rfl)
  clear hR
  simp only [hrc, Act.put, List.setIfInBounds_toArray, List.set_cons_zero, List.set_cons_succ]
  clear hrc
  rw [wpOpsS]
  simp only [List.getElem?_toArray, List.getElem?_cons_zero, List.getElem?_cons_succ, Region.wanted, if_true]
  generalize hR : Sem.run _ _ _ = R
  obtain rfl : R = .ok (.value (.tuple #[.agg #[], .bool true])) w := hR.symm.trans (by kernel_rfl)
  clear hR
  simp only [Oper.upon, Act.put, List.setIfInBounds_toArray, List.set_cons_zero, List.set_cons_succ]
  rw [wpOpsS]
  simp only [List.getElem?_toArray, List.getElem?_cons_zero, List.getElem?_cons_succ, Region.wanted, if_true]
  generalize hR : Sem.run _ _ _ = R
  obtain rfl : R = .ok (.value (.tuple #[.agg #[], .bool true])) w := hR.symm.trans (by kernel_rfl)
  clear hR
  simp only [Oper.upon, Act.put, List.setIfInBounds_toArray, List.set_cons_zero, List.set_cons_succ]
  rw [wpOpsS]
  simp only [List.getElem?_toArray, List.getElem?_cons_zero, List.getElem?_cons_succ, Region.wanted, if_true]
  generalize hR : Sem.run _ _ _ = R
  obtain rfl : R = .ok (.value (.agg #[])) w := hR.symm.trans (by kernel_rfl)
  clear hR
  simp only [Oper.upon, Act.put, List.setIfInBounds_toArray, List.set_cons_zero, List.set_cons_succ]
  rw [wpOpsS]
  simp only [List.getElem?_toArray, List.getElem?_cons_zero, List.getElem?_cons_succ, Region.wanted, if_true]
  generalize hR : Sem.run _ _ _ = R
  obtain rfl : R = .ok (.value (.bool true)) w := hR.symm.trans (by kernel_rfl)
  clear hR
  simp only [Oper.upon, Act.put, List.setIfInBounds_toArray, List.set_cons_zero, List.set_cons_succ]
  rw [wpOpsS]
  simp only [List.getElem?_toArray, List.getElem?_cons_zero, List.getElem?_cons_succ, Region.wanted, if_true]
  generalize hR : Sem.run _ _ _ = R
  obtain rfl : R = .ok (.value (.pointer (some ⟨w.heap.size, 0, none⟩))) (w.alloc (.cells #[] 97)) := hR.symm.trans (by kernel_rfl)
  clear hR
  simp only [Oper.upon, Act.put, List.setIfInBounds_toArray, List.set_cons_zero, List.set_cons_succ]
  rw [wpOpsS]
  simp only [List.getElem?_toArray, List.getElem?_cons_zero, List.getElem?_cons_succ, Region.wanted, if_true]
  generalize hR : Sem.run _ _ _ = R
  obtain rfl : R = .ok .skip (w.alloc (.cells #[] 97)) := hR.symm.trans (by kernel_rfl)
  clear hR
  simp only [Oper.upon, Act.put, List.setIfInBounds_toArray, List.set_cons_zero, List.set_cons_succ]
  rw [wpOpsS]
  simp only [List.getElem?_toArray, List.getElem?_cons_zero, List.getElem?_cons_succ, Region.wanted, if_true]
  generalize hR : Sem.run _ _ _ = R
  obtain rfl : R = .ok (.value (.bool true)) (w.alloc (.cells #[] 97)) := hR.symm.trans (by kernel_rfl)
  clear hR
  simp only [Oper.upon, Act.put, List.setIfInBounds_toArray, List.set_cons_zero, List.set_cons_succ]
  refine wpS_of_wp ?_
  have X1 : Chg NoB w (w.alloc (.cells #[] 97)) := (Chg.refl NoB w).alloc _
  have hs1 := X1.heap hs (fun h => h)
  have hq1 := X1.heap hq (fun h => h)
  generalize hW : w.alloc (.cells #[] 97) = W at X1 hs1 hq1 ⊢
  clear hW
  obtain ⟨z0, z1, z2, z3, z4, z5, z6, z7, z8, z9, z10, z11, z12, z13⟩ := cells14 hs1
  have zq : W.cell? ⟨q, 0, none⟩ = some (.int .i64 x) := cell_of_row W q 0 _ _ _ hq1
  have fs : ∀ o, W.frozen? ⟨s, o, none⟩ = false := fun o => frozen_of_row _ _ o _ _ hs1
  have fq : ∀ o, W.frozen? ⟨q, o, none⟩ = false := fun o => frozen_of_row _ _ o _ _ hq1
  have hqs : ¬ q = s := fun e => hsq e.symm
  have X14 := chg_set14 W s (.int .i64 0) (sv []) (sv []) (.slice none 0 0) (.slice none 0 0) (.slice none 0 0) (.slice none 0 0) (.slice none 0 0) (.slice none 0 0) (.slice none 0 0) (.slice none 0 0) (.int .i64 0) (.slice none 0 0) (.bool false)
  have h14 := set14_heap W s _ _ (.int .i64 0) (sv []) (sv []) (.slice none 0 0) (.slice none 0 0) (.slice none 0 0) (.slice none 0 0) (.slice none 0 0) (.slice none 0 0) (.slice none 0 0) (.slice none 0 0) (.int .i64 0) (.slice none 0 0) (.bool false) rfl hs1
  have hq14 := X14.heap hq1 hqs
  have HX14 := Lib.hid X14
  have H14 := Lib.hid h14
  have HQ14 := Lib.hid hq14
  clear X14 h14 hq14
  go_wp2
  refine ⟨rfl, _, rfl, _, results_none rfl _ _ _, rfl, rfl, ?_, ?_, ?_⟩
  · exact ((chg_no X1).trans HX14.out (fun k h => .inl (.inl h))).setCell (p := ⟨q, 0, none⟩) (.inl (.inr rfl)) _
  · exact (hset_ne (by exact hsq)).trans H14.out
  · exact hset_eq (i := 0) HQ14.out
set_option maxRecDepth 100000 in
set_option maxHeartbeats 400000 in
theorem catch_idle (s q : Nat) (w : World) :
    CallsD Tryz.prog 37 #[.pointer (some ⟨s, 0, none⟩), .pointer (some ⟨q, 0, none⟩)] .returning w fun e u' w' =>
      e = .returned (.tuple #[]) ∧ u' = .returning ∧ Chg NoB w w' := by
  refine callsD_of_wpS Tryz.func37 rfl fun c₀ cs hu => ?_
  apply wpS_seq
  apply wpS_region
  have hrc : recoverD (c₀ :: cs) = none := by simp only [recoverD, hu]
  show wpOpsS _ _ _ [0, 1, 2, 3, 4, 5, 6, 7] _ _ _
  generalize hA : Act.mk _ _ = A
  obtain rfl : A = ⟨#[.pointer (some ⟨s, 0, none⟩), .pointer (some ⟨q, 0, none⟩), undef, undef, undef, undef, undef, undef, undef, undef, undef], []⟩ := hA.symm.trans (by kernel_rfl)
  clear hA
  rw [wpOpsS]
  simp only [List.getElem?_toArray, List.getElem?_cons_zero, List.getElem?_cons_succ, Region.wanted, if_true]
  generalize hR : Sem.run _ _ _ = R
  obtain rfl : R = .ok .recover w := hR.symm.trans (by kernel_rfl)
  clear hR
  simp only [hrc, Act.put, List.setIfInBounds_toArray, List.set_cons_zero, List.set_cons_succ]
  clear hrc
  rw [wpOpsS]
  simp only [List.getElem?_toArray, List.getElem?_cons_zero, List.getElem?_cons_succ, Region.wanted, if_true]
  generalize hR : Sem.run _ _ _ = R
  obtain rfl : R = .ok (.value (.tuple #[.agg #[], .bool false])) w := hR.symm.trans (by kernel_rfl)
  clear hR
  simp only [Oper.upon, Act.put, List.setIfInBounds_toArray, List.set_cons_zero, List.set_cons_succ]
  rw [wpOpsS]
  simp only [List.getElem?_toArray, List.getElem?_cons_zero, List.getElem?_cons_succ, Region.wanted, if_true]
  generalize hR : Sem.run _ _ _ = R
  obtain rfl : R = .ok (.value (.tuple #[.agg #[], .bool false])) w := hR.symm.trans (by kernel_rfl)
  clear hR
  simp only [Oper.upon, Act.put, List.setIfInBounds_toArray, List.set_cons_zero, List.set_cons_succ]
  rw [wpOpsS]
  simp only [List.getElem?_toArray, List.getElem?_cons_zero, List.getElem?_cons_succ, Region.wanted, if_true]
  generalize hR : Sem.run _ _ _ = R
  obtain rfl : R = .ok (.value (.agg #[])) w := hR.symm.trans (by kernel_rfl)
  clear hR
  simp only [Oper.upon, Act.put, List.setIfInBounds_toArray, List.set_cons_zero, List.set_cons_succ]
  rw [wpOpsS]
  simp only [List.getElem?_toArray, List.getElem?_cons_zero, List.getElem?_cons_succ, Region.wanted, if_true]
  generalize hR : Sem.run _ _ _ = R
  obtain rfl : R = .ok (.value (.bool false)) w := hR.symm.trans (by kernel_rfl)
  clear hR
  simp only [Oper.upon, Act.put, List.setIfInBounds_toArray, List.set_cons_zero, List.set_cons_succ]
  rw [wpOpsS]
  simp only [List.getElem?_toArray, List.getElem?_cons_zero, List.getElem?_cons_succ, Region.wanted, if_true]
  generalize hR : Sem.run _ _ _ = R
  obtain rfl : R = .ok (.value (.pointer (some ⟨w.heap.size, 0, none⟩))) (w.alloc (.cells #[] 97)) := hR.symm.trans (by kernel_rfl)
  clear hR
  simp only [Oper.upon, Act.put, List.setIfInBounds_toArray, List.set_cons_zero, List.set_cons_succ]
  rw [wpOpsS]
  simp only [List.getElem?_toArray, List.getElem?_cons_zero, List.getElem?_cons_succ, Region.wanted, if_true]
  generalize hR : Sem.run _ _ _ = R
  obtain rfl : R = .ok .skip (w.alloc (.cells #[] 97)) := hR.symm.trans (by kernel_rfl)
  clear hR
  simp only [Oper.upon, Act.put, List.setIfInBounds_toArray, List.set_cons_zero, List.set_cons_succ]
  rw [wpOpsS]
  simp only [List.getElem?_toArray, List.getElem?_cons_zero, List.getElem?_cons_succ, Region.wanted, if_true]
  generalize hR : Sem.run _ _ _ = R
  obtain rfl : R = .ok (.value (.bool false)) (w.alloc (.cells #[] 97)) := hR.symm.trans (by kernel_rfl)
  clear hR
  simp only [Oper.upon, Act.put, List.setIfInBounds_toArray, List.set_cons_zero, List.set_cons_succ]
  refine wpS_of_wp ?_
  have X1 : Chg NoB w (w.alloc (.cells #[] 97)) := (Chg.refl NoB w).alloc _
  generalize hW : w.alloc (.cells #[] 97) = W at X1 ⊢
  clear hW
  go_wp2
  exact ⟨rfl, _, by rw [← hu], _, results_none rfl _ _ _, rfl, rfl, X1⟩
end Go.Proofs.YtnbckfkdmkbopaaGreatDoor
