/-
  Choosing the least name above the last one, again and again, is sorting by name. Condition: the names are unlike, and none is empty.
-/
import Derived.Test.YtpiijcjbphpffaaCSort
set_option autoImplicit false
namespace Go.Proofs.Ytpiijcjbphpffaa
open Go Go.RowKit

theorem nLt_less (a b : ByteArray) : nLt a b = Op.bytesLess a.toList b.toList := by unfold nLt; rw [bytesLess_eq, Lib.toList_data, Lib.toList_data]
def bI : Option Nat → Int
  | none => -1
  | some i => i
section
variable {α : Type} (f : α → ByteArray) (p : α → Bool)
/-- b: the number of the least of the first n that are above 'last' -/
def Best (l : List α) (last : ByteArray) (n : Nat) : Option Nat → Prop
  | none => ∀ (j : Nat) (x : α), j < n → l[j]? = some x → p x = true → nLt last (f x) = false
  | some i => ∃ x, i < n ∧ l[i]? = some x ∧ p x = true ∧ nLt last (f x) = true ∧ ∀ (j : Nat) (y : α), j < n → l[j]? = some y → p y = true → nLt last (f y) = true → nLt (f y) (f x) = false
variable {f p} {l : List α} {last : ByteArray} {n : Nat}
theorem Best.zero : Best f p l last 0 none := fun _ _ h => absurd h (Nat.not_lt_zero _)
theorem Best.skip {b : Option Nat} (h : Best f p l last n b) {x : α} (hx : l[n]? = some x) (hp : p x = false ∨ nLt last (f x) = false) : Best f p l last (n + 1) b := by
  cases b with
  | none =>
    intro j y hj hy hpy
    by_cases hjn : j = n
    · subst hjn
      rw [hx] at hy
      obtain rfl := Option.some.inj hy
      rcases hp with h1 | h1
      · rw [hpy] at h1; cases h1
      · exact h1
    · exact h j y (by omega) hy hpy
  | some i =>
    obtain ⟨z, h1, h2, h3, h4, h5⟩ := h
    refine ⟨z, by omega, h2, h3, h4, fun j y hj hy hpy hl => ?_⟩
    by_cases hjn : j = n
    · subst hjn
      rw [hx] at hy
      obtain rfl := Option.some.inj hy
      rcases hp with h6 | h6
      · rw [hpy] at h6; cases h6
      · rw [hl] at h6; cases h6
    · exact h5 j y (by omega) hy hpy hl
theorem Best.first (h : Best f p l last n none) {x : α} (hx : l[n]? = some x) (hp : p x = true) (hl : nLt last (f x) = true) : Best f p l last (n + 1) (some n) := by
  refine ⟨x, by omega, hx, hp, hl, fun j y hj hy hpy hly => ?_⟩
  by_cases hjn : j = n
  · subst hjn
    rw [hx] at hy
    obtain rfl := Option.some.inj hy
    exact nLt_irrefl _
  · rw [h j y (by omega) hy hpy] at hly; cases hly
theorem Best.keep {i : Nat} (h : Best f p l last n (some i)) {x z : α} (hx : l[n]? = some x) (hz : l[i]? = some z) (hl : nLt (f x) (f z) = false) : Best f p l last (n + 1) (some i) := by
  obtain ⟨u, h1, h2, h3, h4, h5⟩ := h
  rw [hz] at h2
  obtain rfl := Option.some.inj h2
  refine ⟨z, by omega, hz, h3, h4, fun j y hj hy hpy hly => ?_⟩
  by_cases hjn : j = n
  · subst hjn
    rw [hx] at hy
    obtain rfl := Option.some.inj hy
    exact hl
  · exact h5 j y (by omega) hy hpy hly
theorem Best.turn {i : Nat} (h : Best f p l last n (some i)) {x z : α} (hx : l[n]? = some x) (hz : l[i]? = some z) (hp : p x = true) (hlx : nLt last (f x) = true) (hl : nLt (f x) (f z) = true) : Best f p l last (n + 1) (some n) := by
  obtain ⟨u, h1, h2, h3, h4, h5⟩ := h
  rw [hz] at h2
  obtain rfl := Option.some.inj h2
  refine ⟨x, by omega, hx, hp, hlx, fun j y hj hy hpy hly => ?_⟩
  by_cases hjn : j = n
  · subst hjn
    rw [hx] at hy
    obtain rfl := Option.some.inj hy
    exact nLt_irrefl _
  · have h6 := h5 j y (by omega) hy hpy hly
    cases h7 : nLt (f y) (f x) with
    | false => rfl
    | true => rw [nLt_trans h7 hl] at h6; cases h6
end
section
variable {α : Type} (f : α → ByteArray)
def lastOf (S : List α) : Nat → ByteArray
  | 0 => ⟨#[]⟩
  | k + 1 => match S[k]? with
    | some x => f x
    | none => ⟨#[]⟩
structure Sorts (p : α → Bool) (l S : List α) : Prop where
  perm : S.Perm (l.filter p)
  rises : S.Pairwise fun x y => nLe (f x) (f y) = true
  nodup : (S.map f).Nodup
  full : ∀ x ∈ S, 0 < (f x).size
variable {f} {p : α → Bool} {l S : List α}
theorem Sorts.lt (h : Sorts f p l S) {a b : Nat} {x y : α} (hab : a < b) (hx : S[a]? = some x) (hy : S[b]? = some y) : nLt (f x) (f y) = true := by
  obtain ⟨ha, rfl⟩ := List.getElem?_eq_some_iff.1 hx
  obtain ⟨hb, rfl⟩ := List.getElem?_eq_some_iff.1 hy
  have h1 := List.pairwise_iff_getElem.1 h.rises a b ha hb hab
  cases h2 : nLt (f S[a]) (f S[b]) with
  | true => rfl
  | false =>
    have h3 : nLt (f S[b]) (f S[a]) = false := by unfold nLe at h1; simpa using h1
    have h4 := nLt_tri h2 h3
    have := (List.pairwise_iff_getElem.1 h.nodup) a b (by simpa using ha) (by simpa using hb) hab
    simp at this
    exact absurd h4 this
theorem nLt_empty {s : ByteArray} (h : 0 < s.size) : nLt ⟨#[]⟩ s = true := by
  unfold nLt
  have : s.data.toList ≠ [] := by
    intro e
    have h2 : s.data.toList.length = 0 := by rw [e]; rfl
    have h3 : s.size = s.data.toList.length := by simp
    omega
  cases hh : s.data.toList with
  | nil => exact absurd hh this
  | cons a r => simp
theorem Sorts.above (h : Sorts f p l S) {k j : Nat} {y : α} (hk : k ≤ S.length) (hy : S[j]? = some y) : nLt (lastOf f S k) (f y) = decide (k ≤ j) := by
  cases k with
  | zero => rw [show lastOf f S 0 = ⟨#[]⟩ from rfl, nLt_empty (h.full y (List.mem_of_getElem? hy))]; simp
  | succ k =>
    have hx : S[k]? = some S[k] := List.getElem?_eq_getElem (by omega)
    have e : lastOf f S (k + 1) = f S[k] := by simp only [lastOf, hx]
    rw [e]
    by_cases hkj : k < j
    · rw [h.lt hkj hx hy, decide_eq_true (show k + 1 ≤ j by omega)]
    · rw [decide_eq_false (show ¬ k + 1 ≤ j by omega)]
      by_cases hjk : j = k
      · subst hjk
        rw [hx] at hy
        obtain rfl := Option.some.inj hy
        exact nLt_irrefl _
      · exact nLt_asymm (h.lt (show j < k by omega) hy hx)
theorem Sorts.of_mem (h : Sorts f p l S) {x : α} (hx : x ∈ l) (hp : p x = true) : ∃ j : Nat, S[j]? = some x := by
  have : x ∈ S := h.perm.mem_iff.2 (List.mem_filter.2 ⟨hx, hp⟩)
  obtain ⟨j, hj, rfl⟩ := List.getElem_of_mem this
  exact ⟨j, List.getElem?_eq_getElem hj⟩
theorem Sorts.to_mem (h : Sorts f p l S) {j : Nat} {x : α} (hx : S[j]? = some x) : p x = true ∧ ∃ i : Nat, l[i]? = some x := by
  have := h.perm.mem_iff.1 (List.mem_of_getElem? hx)
  rw [List.mem_filter] at this
  obtain ⟨i, hi, rfl⟩ := List.getElem_of_mem this.1
  exact ⟨this.2, i, List.getElem?_eq_getElem hi⟩
theorem Sorts.some_at (h : Sorts f p l S) {k i : Nat} {x : α} (hk : k ≤ S.length) (hb : Best f p l (lastOf f S k) l.length (some i)) (hx : l[i]? = some x) : S[k]? = some x := by
  obtain ⟨u, h1, h2, h3, h4, h5⟩ := hb
  rw [hx] at h2
  obtain rfl := Option.some.inj h2
  obtain ⟨j, hj⟩ := h.of_mem (List.mem_of_getElem? hx) h3
  rw [h.above hk hj] at h4
  have h4 : k ≤ j := by simpa using h4
  by_cases hjk : j = k
  · rw [← hjk]; exact hj
  · exfalso
    have hjl := (List.getElem?_eq_some_iff.1 hj).1
    have hy : S[k]? = some S[k] := List.getElem?_eq_getElem (by omega)
    obtain ⟨hp, m, hm⟩ := h.to_mem hy
    have h6 := h5 m _ (List.getElem?_eq_some_iff.1 hm).1 hm hp (by rw [h.above hk hy]; simp)
    rw [h.lt (show k < j by omega) hy hj] at h6
    cases h6
theorem Sorts.none_at (h : Sorts f p l S) {k : Nat} (hk : k ≤ S.length) (hb : Best f p l (lastOf f S k) l.length none) : k = S.length := by
  by_cases hlt : k < S.length
  · exfalso
    have hy : S[k]? = some S[k] := List.getElem?_eq_getElem hlt
    obtain ⟨hp, m, hm⟩ := h.to_mem hy
    have := hb m _ (List.getElem?_eq_some_iff.1 hm).1 hm hp
    rw [h.above hk hy] at this
    simp at this
  · omega
theorem lastOf_succ {k : Nat} {x : α} (h : S[k]? = some x) : lastOf f S (k + 1) = f x := by simp only [lastOf, h]
end
end Go.Proofs.Ytpiijcjbphpffaa
