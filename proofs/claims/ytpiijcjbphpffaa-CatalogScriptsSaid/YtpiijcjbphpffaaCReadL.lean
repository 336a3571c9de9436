/-
  Read in plain Lean: a row of a table, a row of an index, all rows. No condition beyond each lemma's own.
-/
import Derived.Test.YtpiijcjbphpffaaCTake
import Derived.Test.YtpiijcjbphpffaaCAddI
set_option autoImplicit false
namespace Go.Proofs.Ytpiijcjbphpffaa
open Go Go.RowKit

theorem take_len (R : Rd) (kind : Int) : (R.take kind).2.l.length ≤ R.l.length - 1 := by
  unfold Rd.take
  cases h : R.l with
  | nil => simp
  | cons v l => simp only; split <;> simp
/-- a column's four values -/
def Rd.col (R : Rd) : Col × Rd :=
  (⟨(R.take 3).1.str, ((R.take 3).2.take 1).1.num, ((((R.take 3).2.take 1).2.take 2).1.num == 1), (((((R.take 3).2.take 1).2.take 2).2.take 2).1.num == 1)⟩, ((((R.take 3).2.take 1).2.take 2).2.take 2).2)
theorem col_len (R : Rd) : R.col.2.l.length ≤ R.l.length - 1 := by
  unfold Rd.col
  have h1 := take_len R 3
  have h2 := take_len (R.take 3).2 1
  have h3 := take_len ((R.take 3).2.take 1).2 2
  have h4 := take_len (((R.take 3).2.take 1).2.take 2).2 2
  simp only
  omega
def colsGo : Nat → Rd → List Col × Rd
  | 0, R => ([], R)
  | f + 1, R => if R.l.length = 0 then ([], R) else (R.col.1 :: (colsGo f R.col.2).1, (colsGo f R.col.2).2)
theorem colsGo_fuel : ∀ (f g : Nat) (R : Rd), R.l.length ≤ f → R.l.length ≤ g → colsGo f R = colsGo g R
  | 0, 0, R, _, _ => rfl
  | 0, g + 1, R, h, _ => by unfold colsGo; rw [if_pos (by omega)]
  | f + 1, 0, R, _, h => by unfold colsGo; rw [if_pos (by omega)]
  | f + 1, g + 1, R, h, k => by
    unfold colsGo
    by_cases h0 : R.l.length = 0
    · rw [if_pos h0, if_pos h0]
    · rw [if_neg h0, if_neg h0]
      have hc := col_len R
      rw [colsGo_fuel f g R.col.2 (by omega) (by omega)]
def Rd.cols (R : Rd) : List Col × Rd := colsGo R.l.length R
theorem cols_nil {R : Rd} (h : R.l.length = 0) : R.cols = ([], R) := by
  unfold Rd.cols
  rw [h]
  rfl
theorem cols_cons {R : Rd} (h : R.l.length ≠ 0) : R.cols = (R.col.1 :: R.col.2.cols.1, R.col.2.cols.2) := by
  unfold Rd.cols
  obtain ⟨f, hf⟩ : ∃ f, R.l.length = f + 1 := ⟨R.l.length - 1, by omega⟩
  have hc := col_len R
  rw [hf]
  show (if R.l.length = 0 then _ else _) = _
  rw [if_neg h, colsGo_fuel f R.col.2.l.length R.col.2 (by omega) (Nat.le_refl _)]
theorem cols_end (n : Nat) : ∀ R : Rd, R.l.length = n → R.cols.2.l.length = 0 := by
  induction n using Nat.strongRecOn with
  | ind n ih =>
    intro R hn
    by_cases h : R.l.length = 0
    · rw [cols_nil h]; exact h
    · rw [cols_cons h]
      have hc := col_len R
      exact ih R.col.2.l.length (by omega) R.col.2 rfl
/-- strings of a reader -/
def Rd.big (R : Rd) : Prop := ∀ v ∈ R.l, Proofs.Ytpiijcjbphpffaa.big v.str
theorem take_big {R : Rd} (h : R.big) (kind : Int) : Proofs.Ytpiijcjbphpffaa.big (R.take kind).1.str ∧ (R.take kind).2.big := by
  unfold Rd.take
  cases hl : R.l with
  | nil => exact ⟨by show (0 : Nat) ≤ _; omega, fun v hv => by simp at hv⟩
  | cons v l =>
    have hv : Proofs.Ytpiijcjbphpffaa.big v.str := h v (by rw [hl]; simp)
    have hr : ∀ x ∈ l, Proofs.Ytpiijcjbphpffaa.big x.str := fun x hx => h x (by rw [hl]; simp [hx])
    simp only
    split
    · exact ⟨hv, hr⟩
    · exact ⟨by show (0 : Nat) ≤ _; omega, fun v hv => by simp at hv⟩
/-- a row of a table, or one that is kept for later -/
def tabStep (s : Cat × List Rd) (row : List Val) : Option (Cat × List Rd) :=
  let p := (Rd.mk row false).take 2
  if p.1.num = 1 then
    let q := p.2.take 3
    let cs := q.2.cols
    if cs.2.bad = false ∧ s.1.addTR ⟨q.1.str, cs.1⟩ = 0 then some (s.1.addT ⟨q.1.str, cs.1⟩, s.2) else none
  else some (s.1, s.2 ++ [p.2])
/-- a row of an index -/
def ixStep (C : Cat) (R : Rd) : Option Cat :=
  let n := R.take 3
  let t := n.2.take 3
  let c := t.2.take 1
  let h := c.2.take 2
  if h.2.bad = false ∧ h.2.l.length = 0 ∧ (tfind C.T t.1.str).isSome = true ∧ 0 ≤ c.1.num ∧ c.1.num < (colsOf C.T t.1.str).length ∧ C.addIR n.1.str t.1.str ((colsOf C.T t.1.str)[c.1.num.toNat]?.getD ⟨⟨#[]⟩, 0, false, false⟩).name = 0 then
    some (C.addI n.1.str t.1.str ((colsOf C.T t.1.str)[c.1.num.toNat]?.getD ⟨⟨#[]⟩, 0, false, false⟩).name (h.1.num == 1))
  else none
def foldO {α β : Type} (f : α → β → Option α) : α → List β → Option α
  | s, [] => some s
  | s, x :: l => match f s x with
    | some s' => foldO f s' l
    | none => none
theorem foldO_app {α β : Type} (f : α → β → Option α) : ∀ (l m : List β) (s : α), foldO f s (l ++ m) = match foldO f s l with
    | some s' => foldO f s' m
    | none => none
  | [], m, s => rfl
  | x :: l, m, s => by
    show (match f s x with | some s' => foldO f s' (l ++ m) | none => none) = _
    rw [foldO]
    cases f s x with
    | none => rfl
    | some s' => exact foldO_app f l m s'
theorem foldO_succ {α β : Type} (f : α → β → Option α) {l : List β} {k : Nat} {x : β} {s s' : α} (hx : l[k]? = some x) (h : foldO f s (l.take k) = some s') : foldO f s (l.take (k + 1)) = f s' x := by
  rw [List.take_add_one, hx, Option.toList_some, foldO_app, h]
  show foldO f s' [x] = _
  unfold foldO
  cases f s' x <;> rfl
theorem foldO_none {α β : Type} (f : α → β → Option α) {l : List β} {k : Nat} {s : α} (h : foldO f s (l.take k) = none) : foldO f s l = none := by
  conv => lhs; rw [← List.take_append_drop k l]
  rw [foldO_app, h]
def readC (rows : List (List Val)) : Option Cat := match foldO tabStep (Cat.empty, []) rows with
  | some s => foldO ixStep s.1 s.2
  | none => none
end Go.Proofs.Ytpiijcjbphpffaa
