/-
  How a slice that came in is told to a walk. No condition.
  What the rows' proofs share: the program's own facts, and how arguments that came in are read. No condition.
  What the rows' proofs share: slices of structs of one-celled fields that came in. No condition.
-/
import Derived.Test.YtnbckfkdmkbopaaGreatDoorTG01
import Derived.Test.YtnbckfkdmkbopaaGreatDoorRows
import Derived.ProofKit
import Derived.OpenShut
import Derived.ChangeOld
import Derived.Deep.SlicePairs
import Derived.Deep.Slices
import Derived.Deep.Fields
import Derived.ChangeSame
import Derived.SizedLaws
set_option autoImplicit false
namespace Go.Proofs.YtnbckfkdmkbopaaGreatDoor
open Go Go.RowKit

/-- a slice of what somebody else owns: element i's cell j -/
def SlRd (w : World) (ao : Option Addr) (len sz : Nat) (V : Nat → Nat → Value) : Prop :=
  0 < len → ∃ b o, ao = some ⟨b, o, none⟩ ∧ b < w.heap.size ∧ ∀ i j, i < len → j < sz → w.cell? ⟨b, o + i * sz + j, none⟩ = some (V i j)
theorem SlRd.chg {w w' : World} {F : Nat → Prop} {ao : Option Addr} {len sz : Nat} {V : Nat → Nat → Value} (h : SlRd w ao len sz V) (c : Chg F w w') (hF : ∀ b, b < w.heap.size → ¬ F b) : SlRd w' ao len sz V := by
  intro hl
  obtain ⟨b, o, rfl, hb, hc⟩ := h hl
  refine ⟨b, o, rfl, Nat.lt_of_lt_of_le hb c.size, fun i j hi hj => ?_⟩
  rw [cell_of_heap (c.keep b hb (hF b hb))]
  exact hc i j hi hj
end Go.Proofs.YtnbckfkdmkbopaaGreatDoor

set_option autoImplicit false
namespace Go.Proofs.YtnbckfkdmkbopaaGreatDoor
open Go.ChangeShapes Go.WideShapes Go.ChangeAt Go.RowKit Go.Deep

theorem own : ownKnob Tryz.prog.godebug = none := by kernel_rfl
theorem laidOut : laidOutB Tryz.prog = true := by kernel_rfl
theorem i64_of {V : Value} {H : Type} {enc : TypeId × Value → H} {w : World} {base : Nat} {spare : Nat → Bool} {held : Bool} {n t : Nat} {y : DataW H × List MemPlace} (ht : Tryz.prog.underlying t = some (.int .i64))
    (h : DataW.trod enc Tryz.prog w base spare held n t [V] = some y) : V = .int .i64 (intOf V) ∧ -9223372036854775808 ≤ intOf V ∧ intOf V ≤ 9223372036854775807 := by
  obtain ⟨a, e0, _, wa⟩ := DataW.trod_int ht h
  simp at e0
  subst e0
  refine ⟨rfl, ?_⟩
  simp [Lit.wf, IntKind.min, IntKind.max, IntKind.signed, IntKind.bits] at wa
  simpa [intOf] using wa
theorem u8_of {V : Value} {H : Type} {enc : TypeId × Value → H} {w : World} {base : Nat} {spare : Nat → Bool} {held : Bool} {n t : Nat} {y : DataW H × List MemPlace} (ht : Tryz.prog.underlying t = some (.int .u8))
    (h : DataW.trod enc Tryz.prog w base spare held n t [V] = some y) : V = .int .u8 (intOf V) ∧ 0 ≤ intOf V ∧ intOf V ≤ 255 := by
  obtain ⟨a, e0, _, wa⟩ := DataW.trod_int ht h
  simp at e0
  subst e0
  refine ⟨rfl, ?_⟩
  simp [Lit.wf, IntKind.min, IntKind.max, IntKind.signed, IntKind.bits] at wa
  simpa [intOf] using wa
theorem addr_plain {w : World} {a : Addr} {n : Nat} {v : Value} (h : w.cell? (a.add n) = some v) (hn : n = 0) : a = ⟨a.block, a.off, none⟩ := by
  subst hn
  obtain ⟨b, o, s⟩ := a
  have := World.cell?_spot h
  simp [Addr.add] at this
  subst this
  rfl

section
variable {H : Type} {enc : TypeId × Value → H} {w : World} {base : Nat} {spare : Nat → Bool} {held : Bool} {n t : Nat} {y : DataW H × List MemPlace}
theorem bool_of {V : Value} (ht : Tryz.prog.underlying t = some .bool) (h : DataW.trod enc Tryz.prog w base spare held n t [V] = some y) : ∃ b, V = .bool b := by
  obtain ⟨a, e0, _⟩ := DataW.trod_bool ht h
  simp at e0
  exact ⟨a, e0⟩
/-- a slice of one-celled elements -/
theorem slice1_rd {t e : TypeId} {ao : Option Addr} {len cap : Nat} (ht : Tryz.prog.underlying t = some (.slice e)) (ce : Tryz.prog.cellsOf e = 1) {p : Value → Prop} (hp : ∀ V n y, DataW.trod enc Tryz.prog w base (fun _ => true) held n e [V] = some y → p V)
    {x : DataW H × List MemPlace} {fuel : Nat} (h : DataW.trod enc Tryz.prog w base (fun _ => true) held fuel t (Value.slice ao len cap).cells.toList = some x) :
    ∃ V : Nat → Value, len ≤ maxLen ∧ SlRd w ao len 1 (fun i _ => V i) ∧ ∀ i, i < len → p (V i) := by
  rcases open_slice ht h with ⟨hcs, _⟩ | ⟨a, l, c, m, n, D, Pl, hcs, _, hl, hm, hmm, _, hc⟩
  · simp [Value.cells] at hcs
    obtain ⟨rfl, rfl, rfl⟩ := hcs
    exact ⟨fun _ => undef, Nat.zero_le _, fun h => by omega, fun i hi => by omega⟩
  · simp [Value.cells] at hcs
    obtain ⟨rfl, rfl, rfl⟩ := hcs
    simp only [if_true] at hmm
    have each : ∀ i, i < len → ∃ V, w.cell? (a.add i) = some V ∧ p V := by
      intro i hi
      obtain ⟨cs', h1, h2⟩ := hc i (by omega)
      rw [ce, Nat.mul_one] at h1
      obtain ⟨_, hlen, hcell⟩ := World.cells?_some h1
      match cs', hlen with
      | [v], _ =>
        have := hcell 0 (by omega)
        simp only [Addr.add_zero', List.getElem?_cons_zero] at this
        exact ⟨v, this, hp v _ _ h2⟩
    obtain ⟨V, hV⟩ := choose_lt each
    refine ⟨V, by omega, fun hpos => ?_, fun i hi => (hV i hi).2⟩
    have hz := (hV 0 hpos).1
    have ha := addr_plain hz rfl
    refine ⟨a.block, a.off, by rw [← ha], by have := World.block_lt_of_cell? w _ hz; rw [ha] at this; simpa [Addr.add] using this, fun i j hi hj => ?_⟩
    have := (hV i hi).1
    rw [ha, Addr.add_mid] at this
    have e : j = 0 := by omega
    subst e
    simpa using this
end
end Go.Proofs.YtnbckfkdmkbopaaGreatDoor

set_option autoImplicit false
namespace Go.Proofs.YtnbckfkdmkbopaaGreatDoor
open Go.ChangeShapes Go.WideShapes Go.ChangeAt Go.RowKit Go.Deep

section
variable {H : Type} {enc : TypeId × Value → H} {P : Program} {w : World} {base : Nat} {spare : Nat → Bool} {held : Bool}
theorem open_fields {t e : TypeId} {fs : Array Field} {fuel : Nat} {cs : List Value} {x : DataW H × List MemPlace} (ht : P.underlying t = some (.slice e)) (he : P.underlying e = some (.struct fs))
    (hone : oneCellFields P fs = true) (hC : P.cellsOf e = fs.size) (h : DataW.trod enc P w base spare held fuel t cs = some x) :
    (cs = [.slice none 0 0] ∧ x = (.nil, [])) ∨
    ∃ (a : Addr) (len cap m : Nat) (D : Nat → DataW H) (Pl : Nat → List MemPlace), cs = [.slice (some a) len cap] ∧ base ≤ a.block ∧ len ≤ cap ∧ cap ≤ maxLen ∧ m = (if spare a.block then cap else len) ∧
      x = (.slice ((List.range len).map D) ((List.range (m - len)).map fun j => D (len + j)), MemPlace.row a (m * fs.size) ++ (List.range m).flatMap Pl) ∧
      ∀ i, i < m → ∃ (n : Nat), ∀ (j : Nat) (f : Field), fs[j]? = some f → ∃ (v : Value) (y : DataW H × List MemPlace), w.cell? (a.add (i * fs.size + j)) = some v ∧ DataW.trod enc P w base spare held n f.type [v] = some y := by
  rcases open_slice ht h with h0 | ⟨a, len, cap, m, n, D, Pl, hcs, hb, hl, hm, hmm, hx, hi⟩
  · exact .inl h0
  · refine .inr ⟨a, len, cap, m, D, Pl, hcs, hb, hl, hm, hmm, by rw [hC] at hx; exact hx, fun i him => ?_⟩
    obtain ⟨cs', hc, ht'⟩ := hi i him
    rw [hC] at hc
    obtain ⟨ys, n', hn', hy, hlen, hyl, hf⟩ := DataW.trod_struct he ht'
    obtain ⟨_, hcl, hat⟩ := World.cells?_some hc
    refine ⟨n', fun j f hj => ?_⟩
    obtain ⟨ho, hk⟩ := hone_of hone j f hj
    have hjl : j < fs.size := (Array.getElem?_eq_some_iff.1 hj).1
    have hcell := hat j hjl
    have hv : cs'[j]? = some (cs'[j]'(by omega)) := List.getElem?_eq_getElem (by omega)
    have h1 := hf j f hj
    rw [ho, hk] at h1
    have hone' : (cs'.drop j).take 1 = [cs'[j]'(by omega)] := by
      rw [List.drop_eq_getElem_cons (by omega)]
      rfl
    rw [hone'] at h1
    have hys : ys[j]? = some (ys[j]'(by omega)) := List.getElem?_eq_getElem (by omega)
    refine ⟨_, _, ?_, h1.trans hys⟩
    rw [← Go.Deep.add_add, hcell, hv]
/-- a slice of structs, told to a walk -/
theorem fields_rd {t e : TypeId} {fs : Array Field} {fuel : Nat} {ao : Option Addr} {len cap : Nat} {x : DataW H × List MemPlace} (ht : P.underlying t = some (.slice e)) (he : P.underlying e = some (.struct fs))
    (hone : oneCellFields P fs = true) (hC : P.cellsOf e = fs.size) (h0 : 0 < fs.size) (h : DataW.trod enc P w base (fun _ => true) held fuel t (Value.slice ao len cap).cells.toList = some x) :
    ∃ V : Nat → Nat → Value, len ≤ maxLen ∧ SlRd w ao len fs.size V ∧ (len = 0 ∨ ∃ el sp, x.1 = .slice el sp ∧ el.length = len) ∧
      ∀ i, i < len → ∀ j f, fs[j]? = some f → ∃ n y, DataW.trod enc P w base (fun _ => true) held n f.type [V i j] = some y := by
  rcases open_fields ht he hone hC h with ⟨hcs, _⟩ | ⟨a, l, c, m, D, Pl, hcs, _, hl, hm, hmm, hx, hc⟩
  · simp [Value.cells] at hcs
    obtain ⟨rfl, rfl, rfl⟩ := hcs
    exact ⟨fun _ _ => undef, Nat.zero_le _, fun h => by omega, .inl rfl, fun i hi => by omega⟩
  · simp [Value.cells] at hcs
    obtain ⟨rfl, rfl, rfl⟩ := hcs
    simp only [if_true] at hmm
    refine ⟨fun i j => (w.cell? (a.add (i * fs.size + j))).getD undef, by omega, fun hpos => ?_, .inr ⟨_, _, by rw [hx], by simp⟩, fun i hi j f hj => ?_⟩
    · obtain ⟨n, hn⟩ := hc 0 (by omega)
      obtain ⟨v, y, hz, _⟩ := hn 0 _ (Array.getElem?_eq_getElem h0)
      have ha := addr_plain hz (by omega)
      refine ⟨a.block, a.off, by rw [← ha], by have := World.block_lt_of_cell? w _ hz; rw [ha] at this; simpa [Addr.add] using this, fun i j hi hj => ?_⟩
      obtain ⟨n', hn'⟩ := hc i (by omega)
      obtain ⟨v', y', hz', _⟩ := hn' j _ (Array.getElem?_eq_getElem hj)
      simp only [hz', Option.getD_some]
      rw [← hz', ha, Addr.add_mid]
      simp [Nat.add_assoc]
    · obtain ⟨n', hn'⟩ := hc i (by omega)
      obtain ⟨v', y', hz', ht'⟩ := hn' j f hj
      exact ⟨n', y', by simpa only [hz', Option.getD_some] using ht'⟩
theorem slice_form {t e : TypeId} {fuel : Nat} {V : Value} {x : DataW H × List MemPlace} (ht : P.underlying t = some (.slice e)) (h : DataW.trod enc P w base spare held fuel t [V] = some x) : ∃ ao l c, V = .slice ao l c := by
  rcases open_slice ht h with ⟨hcs, _⟩ | ⟨a, l, c, m, n, D, Pl, hcs, _⟩
  · exact ⟨none, 0, 0, by simpa using hcs⟩
  · exact ⟨some a, l, c, by simpa using hcs⟩
end
end Go.Proofs.YtnbckfkdmkbopaaGreatDoor
