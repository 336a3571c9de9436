/-
  What the rows' proofs share: the program's own facts, and how arguments that came in are read. No condition.
-/
import Derived.Test.YtpiijcjbphpffaaRows
import Derived.Test.YtpiijcjbphpffaaRead
import Derived.ProofKit
import Derived.OpenShut
import Derived.ChangeOld
import Derived.Deep.SlicePairs
set_option autoImplicit false
namespace Go.Proofs.Ytpiijcjbphpffaa
open Go.ChangeShapes Go.WideShapes Go.ChangeAt Go.RowKit Go.Deep

theorem own : ownKnob Try.prog.godebug = none := by kernel_rfl
theorem laidOut : laidOutB Try.prog = true := by kernel_rfl
theorem i64_of {V : Value} {H : Type} {enc : TypeId × Value → H} {w : World} {base : Nat} {spare : Nat → Bool} {held : Bool} {n t : Nat} {y : DataW H × List MemPlace} (ht : Try.prog.underlying t = some (.int .i64))
    (h : DataW.trod enc Try.prog w base spare held n t [V] = some y) : V = .int .i64 (intOf V) ∧ -9223372036854775808 ≤ intOf V ∧ intOf V ≤ 9223372036854775807 := by
  obtain ⟨a, e0, _, wa⟩ := DataW.trod_int ht h
  simp at e0
  subst e0
  refine ⟨rfl, ?_⟩
  simp [Lit.wf, IntKind.min, IntKind.max, IntKind.signed, IntKind.bits] at wa
  simpa [intOf] using wa
theorem u8_of {V : Value} {H : Type} {enc : TypeId × Value → H} {w : World} {base : Nat} {spare : Nat → Bool} {held : Bool} {n t : Nat} {y : DataW H × List MemPlace} (ht : Try.prog.underlying t = some (.int .u8))
    (h : DataW.trod enc Try.prog w base spare held n t [V] = some y) : V = .int .u8 (intOf V) ∧ 0 ≤ intOf V ∧ intOf V ≤ 255 := by
  obtain ⟨a, e0, _, wa⟩ := DataW.trod_int ht h
  simp at e0
  subst e0
  refine ⟨rfl, ?_⟩
  simp [Lit.wf, IntKind.min, IntKind.max, IntKind.signed, IntKind.bits] at wa
  simpa [intOf] using wa
theorem addr_plain {w : World} {a : Addr} {n : Nat} {v : Value} (h : w.cell? (a.add n) = some v) (hn : n = 0) : a = ⟨a.block, a.off, none⟩ := by
  subst hn
  obtain ⟨b, o, s⟩ := a
  have := World.cell?_spot h
  simp [Addr.add] at this
  subst this
  rfl

section
variable {H : Type} {enc : TypeId × Value → H} {w : World} {base : Nat} {spare : Nat → Bool} {held : Bool} {n t : Nat} {y : DataW H × List MemPlace}
theorem bool_of {V : Value} (ht : Try.prog.underlying t = some .bool) (h : DataW.trod enc Try.prog w base spare held n t [V] = some y) : ∃ b, V = .bool b := by
  obtain ⟨a, e0, _⟩ := DataW.trod_bool ht h
  simp at e0
  exact ⟨a, e0⟩
/-- a slice of one-celled elements -/
theorem slice1_rd {t e : TypeId} {ao : Option Addr} {len cap : Nat} (ht : Try.prog.underlying t = some (.slice e)) (ce : Try.prog.cellsOf e = 1) {p : Value → Prop} (hp : ∀ V n y, DataW.trod enc Try.prog w base (fun _ => true) held n e [V] = some y → p V)
    {x : DataW H × List MemPlace} {fuel : Nat} (h : DataW.trod enc Try.prog w base (fun _ => true) held fuel t (Value.slice ao len cap).cells.toList = some x) :
    ∃ V : Nat → Value, len ≤ maxLen ∧ SlRd w ao len 1 (fun i _ => V i) ∧ ∀ i, i < len → p (V i) := by
  rcases open_slice ht h with ⟨hcs, _⟩ | ⟨a, l, c, m, n, D, Pl, hcs, _, hl, hm, hmm, _, hc⟩
  · simp [Value.cells] at hcs
    obtain ⟨rfl, rfl, rfl⟩ := hcs
    exact ⟨fun _ => undef, Nat.zero_le _, fun h => by omega, fun i hi => by omega⟩
  · simp [Value.cells] at hcs
    obtain ⟨rfl, rfl, rfl⟩ := hcs
    simp only [if_true] at hmm
    have each : ∀ i, i < len → ∃ V, w.cell? (a.add i) = some V ∧ p V := by
      intro i hi
      obtain ⟨cs', h1, h2⟩ := hc i (by omega)
      rw [ce, Nat.mul_one] at h1
      obtain ⟨_, hlen, hcell⟩ := World.cells?_some h1
      match cs', hlen with
      | [v], _ =>
        have := hcell 0 (by omega)
        simp only [Addr.add_zero', List.getElem?_cons_zero] at this
        exact ⟨v, this, hp v _ _ h2⟩
    obtain ⟨V, hV⟩ := choose_lt each
    refine ⟨V, by omega, fun hpos => ?_, fun i hi => (hV i hi).2⟩
    have hz := (hV 0 hpos).1
    have ha := addr_plain hz rfl
    refine ⟨a.block, a.off, by rw [← ha], by have := World.block_lt_of_cell? w _ hz; rw [ha] at this; simpa [Addr.add] using this, fun i j hi hj => ?_⟩
    have := (hV i hi).1
    rw [ha, Addr.add_mid] at this
    have e : j = 0 := by omega
    subst e
    simpa using this
end
end Go.Proofs.Ytpiijcjbphpffaa
