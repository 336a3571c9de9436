/-
  Two books in two zones of memory apart, with what stands outside them. Conditions: as each lemma says.
-/
import Derived.Test.YtkneldeemlngkaaMAlike
import Derived.Test.YtkneldeemlngkaaMSame
set_option autoImplicit false
namespace Go.Proofs.Ytkneldeemlngkaa
open Go Go.RowKit

structure Sb (w0 w1 : World) (P Z Y : Nat → Prop) (w : World) (b r : Nat) (B : Bk) (R : RBk) : Prop where
  bk : BookAt w b Z B
  rk : RBookAt w r Y R
  zl : ∀ k, Z k → k < w.heap.size
  yl : ∀ k, Y k → k < w.heap.size
  zp : ∀ k, Z k → ¬ P k
  yp : ∀ k, Y k → ¬ P k
  zy : ∀ k, Z k → ¬ Y k
  base : ∀ k, k < w0.heap.size → P k
  pl : ∀ k, P k → k < w1.heap.size
  all : Chg (fun _ => False) w0 w
  kept : Chg (fun k => ¬ P k) w1 w
section
variable {w0 w1 w w' : World} {P Z Y G P' : Nat → Prop} {b r b' r' : Nat} {B B' : Bk} {R R' : RBk}
theorem Sb.zb (h : Sb w0 w1 P Z Y w b r B R) : ∀ k, Z k → w0.heap.size ≤ k := fun k hk => by
  rcases Nat.lt_or_ge k w0.heap.size with h1 | h1
  · exact absurd (h.base k h1) (h.zp k hk)
  · exact h1
theorem Sb.yb (h : Sb w0 w1 P Z Y w b r B R) : ∀ k, Y k → w0.heap.size ≤ k := fun k hk => by
  rcases Nat.lt_or_ge k w0.heap.size with h1 | h1
  · exact absurd (h.base k h1) (h.yp k hk)
  · exact h1
/-- the program's book has been worked on -/
theorem Sb.left (h : Sb w0 w1 P Z Y w b r B R) (k : BookAt w' b Z B') (g : Chg Z w w') : Sb w0 w1 P Z Y w' b r B' R :=
  ⟨k, h.rk.chg g (fun k hy hz => h.zy k hz hy), fun k hk => Nat.lt_of_lt_of_le (h.zl k hk) g.size, fun k hk => Nat.lt_of_lt_of_le (h.yl k hk) g.size, h.zp, h.yp, h.zy, h.base, h.pl, h.all.trans g (fun k hk => .inr (h.zb k hk)), h.kept.trans g (fun k hk => .inl (h.zp k hk))⟩
/-- the document's book has been worked on -/
theorem Sb.right (h : Sb w0 w1 P Z Y w b r B R) (k : RBookAt w' r Y R') (g : Chg Y w w') : Sb w0 w1 P Z Y w' b r B R' :=
  ⟨h.bk.chg g (fun k hz hy => h.zy k hz hy), k, fun k hk => Nat.lt_of_lt_of_le (h.zl k hk) g.size, fun k hk => Nat.lt_of_lt_of_le (h.yl k hk) g.size, h.zp, h.yp, h.zy, h.base, h.pl, h.all.trans g (fun k hk => .inr (h.yb k hk)), h.kept.trans g (fun k hk => .inl (h.yp k hk))⟩
/-- .. and has taken in new blocks -/
theorem Sb.rightX (h : Sb w0 w1 P Z Y w b r B R) (k : RBookAt w' r (Ext Y w w') R') (g : Chg Y w w') : Sb w0 w1 P Z (Ext Y w w') w' b r B R' := by
  refine ⟨h.bk.chg g (fun k hz hy => h.zy k hz hy), k, fun k hk => Nat.lt_of_lt_of_le (h.zl k hk) g.size, fun k hk => ?_, h.zp, fun k hk hp => ?_, fun k hz hk => ?_, h.base, h.pl, h.all.trans g (fun k hk => .inr (h.yb k hk)), h.kept.trans g (fun k hk => .inl (h.yp k hk))⟩
  · rcases hk with h1 | h1
    · exact Nat.lt_of_lt_of_le (h.yl k h1) g.size
    · exact h1.2
  · rcases hk with h1 | h1
    · exact h.yp k h1 hp
    · have := h.pl k hp; have := h.kept.size; omega
  · rcases hk with h1 | h1
    · exact h.zy k hz h1
    · have := h.zl k hz; omega
/-- a new book of the program's -/
theorem Sb.newL (h : Sb w0 w1 P Z Y w b r B R) (k : BookAt w' b' (Ext (fun _ => False) w w') B') (g : Chg (fun _ => False) w w') : Sb w0 w1 P (Ext (fun _ => False) w w') Y w' b' r B' R := by
  have hx : ∀ k, Ext (fun _ => False) w w' k → w.heap.size ≤ k ∧ k < w'.heap.size := fun k hk => hk.elim (fun h => h.elim) id
  refine ⟨k, h.rk.chg g (fun _ _ h => h), fun k hk => (hx k hk).2, fun k hk => Nat.lt_of_lt_of_le (h.yl k hk) g.size, fun k hk hp => ?_, h.yp, fun k hz hk => ?_, h.base, h.pl, h.all.trans g (fun _ h => h.elim), h.kept.trans g (fun _ h => h.elim)⟩
  · have := h.pl k hp; have := h.kept.size; have := hx k hk; omega
  · have := h.yl k hk; have := hx k hz; omega
/-- a new book of the document's -/
theorem Sb.newR (h : Sb w0 w1 P Z Y w b r B R) (k : RBookAt w' r' (Ext (fun _ => False) w w') R') (g : Chg (fun _ => False) w w') : Sb w0 w1 P Z (Ext (fun _ => False) w w') w' b r' B R' := by
  have hx : ∀ k, Ext (fun _ => False) w w' k → w.heap.size ≤ k ∧ k < w'.heap.size := fun k hk => hk.elim (fun h => h.elim) id
  refine ⟨h.bk.chg g (fun _ _ h => h), k, fun k hk => Nat.lt_of_lt_of_le (h.zl k hk) g.size, fun k hk => (hx k hk).2, h.zp, fun k hk hp => ?_, fun k hz hk => ?_, h.base, h.pl, h.all.trans g (fun _ h => h.elim), h.kept.trans g (fun _ h => h.elim)⟩
  · have := h.pl k hp; have := h.kept.size; have := hx k hk; omega
  · have := h.zl k hz; have := hx k hk; omega
theorem Sb.quiet (h : Sb w0 w1 P Z Y w b r B R) (x : Chg (fun _ => False) w w') : Sb w0 w1 P Z Y w' b r B R :=
  ⟨h.bk.quiet x, h.rk.quiet x, fun k hk => Nat.lt_of_lt_of_le (h.zl k hk) x.size, fun k hk => Nat.lt_of_lt_of_le (h.yl k hk) x.size, h.zp, h.yp, h.zy, h.base, h.pl, h.all.trans x (fun _ h => h.elim), h.kept.trans x (fun _ h => h.elim)⟩
theorem Sb.fresh (h : Sb w0 w1 P Z Y w b r B R) (x : Chg (fun _ => False) w w') (hP : ∀ k, P k → P' k) (hN : ∀ k, P' k → P k ∨ (w.heap.size ≤ k ∧ k < w'.heap.size)) : Sb w0 w' P' Z Y w' b r B R := by
  refine ⟨h.bk.quiet x, h.rk.quiet x, fun k hk => Nat.lt_of_lt_of_le (h.zl k hk) x.size, fun k hk => Nat.lt_of_lt_of_le (h.yl k hk) x.size, fun k hk hp => ?_, fun k hk hp => ?_, h.zy, fun k hk => hP k (h.base k hk), fun k hk => ?_, h.all.trans x (fun _ h => h.elim), Chg.refl _ _⟩
  · rcases hN k hp with h1 | h1
    · exact h.zp k hk h1
    · have := h.zl k hk; omega
  · rcases hN k hp with h1 | h1
    · exact h.yp k hk h1
    · have := h.yl k hk; omega
  · rcases hN k hk with h1 | h1
    · exact Nat.lt_of_lt_of_le (h.pl k h1) (Nat.le_trans h.kept.size x.size)
    · exact h1.2
theorem Sb.here (h : Sb w0 w1 P Z Y w b r B R) : Sb w0 w P Z Y w b r B R := h.fresh (Chg.refl _ _) (fun _ h => h) (fun _ h => .inl h)
theorem Sb.less (h : Sb w0 w1 P Z Y w b r B R) (hP : ∀ k, P' k → P k) (hb : ∀ k, k < w0.heap.size → P' k) : Sb w0 w P' Z Y w b r B R :=
  ⟨h.bk, h.rk, h.zl, h.yl, fun k hk hp => h.zp k hk (hP k hp), fun k hk hp => h.yp k hk (hP k hp), h.zy, hb, fun k hk => Nat.lt_of_lt_of_le (h.pl k (hP k hk)) h.kept.size, h.all, Chg.refl _ _⟩
theorem Sb.heap (h : Sb w0 w1 P Z Y w b r B R) {k : Nat} {x : Obj} (hk : w1.heap[k]? = some x) (hp : P k) : w.heap[k]? = some x := h.kept.heap hk (fun hn => hn hp)
theorem Sb.start {w2 w3 : World} (hb : BookAt w2 b (Ext (fun _ => False) w w2) B) (x2 : Chg (fun _ => False) w w2) (hr : RBookAt w3 r (Ext (fun _ => False) w2 w3) R) (x3 : Chg (fun _ => False) w2 w3) (h0 : w0.heap.size ≤ w.heap.size) (x0 : Chg (fun _ => False) w0 w) :
    Sb w0 w3 (fun k => k < w.heap.size) (Ext (fun _ => False) w w2) (Ext (fun _ => False) w2 w3) w3 b r B R := by
  have hz : ∀ k, Ext (fun _ => False) w w2 k → w.heap.size ≤ k ∧ k < w2.heap.size := fun k hk => hk.elim (fun h => h.elim) id
  have hy : ∀ k, Ext (fun _ => False) w2 w3 k → w2.heap.size ≤ k ∧ k < w3.heap.size := fun k hk => hk.elim (fun h => h.elim) id
  have z2 := x2.size
  have z3 := x3.size
  exact ⟨hb.quiet x3, hr, fun k hk => by have := hz k hk; omega, fun k hk => (hy k hk).2, fun k hk hp => by have := hz k hk; omega, fun k hk hp => by have := hy k hk; omega, fun k hk hk2 => by have := hz k hk; have := hy k hk2; omega, fun k hk => by omega, fun k hk => by omega, (x0.trans x2 (fun _ h => h.elim)).trans x3 (fun _ h => h.elim), Chg.refl _ _⟩
end
end Go.Proofs.Ytkneldeemlngkaa
