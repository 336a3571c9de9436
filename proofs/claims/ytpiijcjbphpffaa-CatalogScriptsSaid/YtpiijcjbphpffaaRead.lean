/-
  How a slice that came in is told to a walk. No condition.
-/
import Derived.Test.YtpiijcjbphpffaaBase
set_option autoImplicit false
namespace Go.Proofs.Ytpiijcjbphpffaa
open Go Go.RowKit

/-- a slice of what somebody else owns: element i's cell j -/
def SlRd (w : World) (ao : Option Addr) (len sz : Nat) (V : Nat → Nat → Value) : Prop :=
  0 < len → ∃ b o, ao = some ⟨b, o, none⟩ ∧ b < w.heap.size ∧ ∀ i j, i < len → j < sz → w.cell? ⟨b, o + i * sz + j, none⟩ = some (V i j)
theorem SlRd.chg {w w' : World} {F : Nat → Prop} {ao : Option Addr} {len sz : Nat} {V : Nat → Nat → Value} (h : SlRd w ao len sz V) (c : Chg F w w') (hF : ∀ b, b < w.heap.size → ¬ F b) : SlRd w' ao len sz V := by
  intro hl
  obtain ⟨b, o, rfl, hb, hc⟩ := h hl
  refine ⟨b, o, rfl, Nat.lt_of_lt_of_le hb c.size, fun i j hi hj => ?_⟩
  rw [cell_of_heap (c.keep b hb (hF b hb))]
  exact hc i j hi hj
end Go.Proofs.Ytpiijcjbphpffaa
