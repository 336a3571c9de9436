/-
  The walk of MvccIds: it returns true, for every two bytes. No condition.
-/
import Derived.Test.YtfegpmbgcocldaaMRest
import Derived.Test.YtfegpmbgcocldaaMSame
set_option autoImplicit false
namespace Go.Proofs.Ytfegpmbgcocldaa
open Go Go.RowKit

structure IdsI (B : Bk) (i n : Int) : Prop where
  next : B.next = i
  most : B.most = n
  com : ∀ k, (B.get k).1 = 2 ↔ (1 ≤ k ∧ k < i ∧ k % 3 = 0)
  step : B.step ≤ 2 * i
theorem ids_start (n : Int) : IdsI { next := 1, most := n, step := 0, first := 1, all := fun _ => none } 1 n :=
  ⟨rfl, rfl, fun k => ⟨fun h => by simp [Bk.get] at h, fun h => by omega⟩, by show (0 : Int) ≤ _; omega⟩
theorem get_begin (B : Bk) (k : Int) : B.begin.get k = if k = B.next then (1, B.step + 1, 0) else B.get k := by
  unfold Bk.get
  show (eupd B.all B.next _ k).getD _ = _
  unfold eupd
  split <;> rfl
theorem get_fin (B : Bk) (t s k : Int) : (B.fin t s).get k = if k = t then (s, (B.get t).2.1, B.step + 1) else B.get k := by
  unfold Bk.get
  show (eupd B.all t _ k).getD _ = _
  unfold eupd
  split <;> rfl
theorem ids_no {B : Bk} {i n : Int} (h : IdsI B i n) (hi : 1 ≤ i) (h3 : i % 3 ≠ 0) : IdsI B.begin (i + 1) n := by
  refine ⟨by rw [← h.next]; rfl, h.most, fun k => ?_, by have := h.step; show B.step + 1 ≤ _; omega⟩
  rw [get_begin, h.next]
  by_cases hk : k = i
  · subst hk; simp; omega
  · rw [if_neg hk, h.com k]; omega
theorem ids_yes {B : Bk} {i n : Int} (h : IdsI B i n) (hi : 1 ≤ i) (h3 : i % 3 = 0) : IdsI (B.begin.fin i 2) (i + 1) n := by
  refine ⟨by rw [← h.next]; rfl, h.most, fun k => ?_, by have := h.step; show B.step + 1 + 1 ≤ _; omega⟩
  rw [get_fin]
  by_cases hk : k = i
  · subst hk; simp; omega
  · rw [if_neg hk, get_begin, h.next, if_neg hk, h.com k]; omega
theorem ids_new {B : Bk} {i n : Int} (h : IdsI B i n) (ok : B.ok) (hi : 0 ≤ i) : IdsI (Bk.start i n (dV (B.list 2)) (B.list 2).length) i n ∧ (Bk.start i n (dV (B.list 2)) (B.list 2).length).list 2 = B.list 2 ∧ (Bk.start i n (dV (B.list 2)) (B.list 2).length).list 1 = [] := by
  have hg : ∀ k, (Bk.start i n (dV (B.list 2)) (B.list 2).length).get k = if k ∈ B.list 2 then (2, 0, 0) else (0, 0, 0) := fun k => by
    unfold Bk.get
    show (marks (dV (B.list 2)) (B.list 2).length k).getD _ = _
    unfold marks
    rw [dV_in]
    by_cases hd : k ∈ B.list 2 <;> simp [hd]
  have hm : ∀ k, ((Bk.start i n (dV (B.list 2)) (B.list 2).length).get k).1 = 2 ↔ k ∈ B.list 2 := fun k => by
    rw [hg]
    by_cases hd : k ∈ B.list 2 <;> simp [hd]
  refine ⟨⟨rfl, rfl, fun k => ?_, by show (0 : Int) ≤ _; omega⟩, ?_, ?_⟩
  · rw [hm, mem_list ok (by decide), h.com]
  · unfold Bk.list
    rw [show (Bk.start i n (dV ((upto B.next).filter fun k => (B.get k).1 == 2)) ((upto B.next).filter fun k => (B.get k).1 == 2).length).next = B.next from h.next.symm]
    refine List.filter_congr (fun k hk => ?_)
    have h1 := hm k
    unfold Bk.list at h1
    rw [Bool.eq_iff_iff]
    simp only [beq_iff_eq]
    rw [h1, List.mem_filter]
    simp [hk]
  · unfold Bk.list
    rw [List.filter_eq_nil_iff]
    intro k _
    have h1 := hg k
    unfold Bk.list at h1
    rw [h1]
    split <;> simp
theorem thirds : ∀ n : Nat, n < 40 → (((upto ((n : Int) + 1)).filter fun k => decide (1 ≤ k ∧ k % 3 = 0)).length : Int) = (n : Int) / 3 := by decide
theorem ids_len {B : Bk} {n : Nat} (h : IdsI B (n + 1) n) (hn : n < 40) : ((B.list 2).length : Int) = (n : Int) / 3 := by
  rw [← thirds n hn]
  congr 2
  unfold Bk.list
  rw [h.next]
  refine List.filter_congr (fun k hk => ?_)
  have := mem_upto.1 hk
  rw [Bool.eq_iff_iff]
  simp only [beq_iff_eq, decide_eq_true_eq]
  rw [h.com]
  omega
end Go.Proofs.Ytfegpmbgcocldaa
