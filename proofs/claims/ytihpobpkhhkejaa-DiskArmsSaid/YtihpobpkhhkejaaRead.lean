/-
  How a slice that came in is told to a walk. No condition.
-/
import Derived.Test.YtihpobpkhhkejaaBase
set_option autoImplicit false
namespace Go.Proofs.Ytihpobpkhhkejaa
open Go Go.RowKit

/-- a slice of what somebody else owns: element i's cell j -/
def SlRd (w : World) (ao : Option Addr) (len sz : Nat) (V : Nat → Nat → Value) : Prop :=
  0 < len → ∃ b o, ao = some ⟨b, o, none⟩ ∧ b < w.heap.size ∧ ∀ i j, i < len → j < sz → w.cell? ⟨b, o + i * sz + j, none⟩ = some (V i j)
end Go.Proofs.Ytihpobpkhhkejaa
