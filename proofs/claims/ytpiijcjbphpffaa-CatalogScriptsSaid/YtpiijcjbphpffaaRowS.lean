/-
  What the rows' proofs share: slices of structs of one-celled fields that came in. No condition.
-/
import Derived.Test.YtpiijcjbphpffaaRow
import Derived.Deep.Slices
import Derived.Deep.Fields
import Derived.ChangeSame
import Derived.SizedLaws
set_option autoImplicit false
namespace Go.Proofs.Ytpiijcjbphpffaa
open Go.ChangeShapes Go.WideShapes Go.ChangeAt Go.RowKit Go.Deep

section
variable {H : Type} {enc : TypeId × Value → H} {P : Program} {w : World} {base : Nat} {spare : Nat → Bool} {held : Bool}
theorem open_fields {t e : TypeId} {fs : Array Field} {fuel : Nat} {cs : List Value} {x : DataW H × List MemPlace} (ht : P.underlying t = some (.slice e)) (he : P.underlying e = some (.struct fs))
    (hone : oneCellFields P fs = true) (hC : P.cellsOf e = fs.size) (h : DataW.trod enc P w base spare held fuel t cs = some x) :
    (cs = [.slice none 0 0] ∧ x = (.nil, [])) ∨
    ∃ (a : Addr) (len cap m : Nat) (D : Nat → DataW H) (Pl : Nat → List MemPlace), cs = [.slice (some a) len cap] ∧ base ≤ a.block ∧ len ≤ cap ∧ cap ≤ maxLen ∧ m = (if spare a.block then cap else len) ∧
      x = (.slice ((List.range len).map D) ((List.range (m - len)).map fun j => D (len + j)), MemPlace.row a (m * fs.size) ++ (List.range m).flatMap Pl) ∧
      ∀ i, i < m → ∃ (n : Nat), ∀ (j : Nat) (f : Field), fs[j]? = some f → ∃ (v : Value) (y : DataW H × List MemPlace), w.cell? (a.add (i * fs.size + j)) = some v ∧ DataW.trod enc P w base spare held n f.type [v] = some y := by
  rcases open_slice ht h with h0 | ⟨a, len, cap, m, n, D, Pl, hcs, hb, hl, hm, hmm, hx, hi⟩
  · exact .inl h0
  · refine .inr ⟨a, len, cap, m, D, Pl, hcs, hb, hl, hm, hmm, by rw [hC] at hx; exact hx, fun i him => ?_⟩
    obtain ⟨cs', hc, ht'⟩ := hi i him
    rw [hC] at hc
    obtain ⟨ys, n', hn', hy, hlen, hyl, hf⟩ := DataW.trod_struct he ht'
    obtain ⟨_, hcl, hat⟩ := World.cells?_some hc
    refine ⟨n', fun j f hj => ?_⟩
    obtain ⟨ho, hk⟩ := hone_of hone j f hj
    have hjl : j < fs.size := (Array.getElem?_eq_some_iff.1 hj).1
    have hcell := hat j hjl
    have hv : cs'[j]? = some (cs'[j]'(by omega)) := List.getElem?_eq_getElem (by omega)
    have h1 := hf j f hj
    rw [ho, hk] at h1
    have hone' : (cs'.drop j).take 1 = [cs'[j]'(by omega)] := by
      rw [List.drop_eq_getElem_cons (by omega)]
      rfl
    rw [hone'] at h1
    have hys : ys[j]? = some (ys[j]'(by omega)) := List.getElem?_eq_getElem (by omega)
    refine ⟨_, _, ?_, h1.trans hys⟩
    rw [← Go.Deep.add_add, hcell, hv]
/-- a slice of structs, told to a walk -/
theorem fields_rd {t e : TypeId} {fs : Array Field} {fuel : Nat} {ao : Option Addr} {len cap : Nat} {x : DataW H × List MemPlace} (ht : P.underlying t = some (.slice e)) (he : P.underlying e = some (.struct fs))
    (hone : oneCellFields P fs = true) (hC : P.cellsOf e = fs.size) (h0 : 0 < fs.size) (h : DataW.trod enc P w base (fun _ => true) held fuel t (Value.slice ao len cap).cells.toList = some x) :
    ∃ V : Nat → Nat → Value, len ≤ maxLen ∧ SlRd w ao len fs.size V ∧ (len = 0 ∨ ∃ el sp, x.1 = .slice el sp ∧ el.length = len) ∧
      ∀ i, i < len → ∀ j f, fs[j]? = some f → ∃ n y, DataW.trod enc P w base (fun _ => true) held n f.type [V i j] = some y := by
  rcases open_fields ht he hone hC h with ⟨hcs, _⟩ | ⟨a, l, c, m, D, Pl, hcs, _, hl, hm, hmm, hx, hc⟩
  · simp [Value.cells] at hcs
    obtain ⟨rfl, rfl, rfl⟩ := hcs
    exact ⟨fun _ _ => undef, Nat.zero_le _, fun h => by omega, .inl rfl, fun i hi => by omega⟩
  · simp [Value.cells] at hcs
    obtain ⟨rfl, rfl, rfl⟩ := hcs
    simp only [if_true] at hmm
    refine ⟨fun i j => (w.cell? (a.add (i * fs.size + j))).getD undef, by omega, fun hpos => ?_, .inr ⟨_, _, by rw [hx], by simp⟩, fun i hi j f hj => ?_⟩
    · obtain ⟨n, hn⟩ := hc 0 (by omega)
      obtain ⟨v, y, hz, _⟩ := hn 0 _ (Array.getElem?_eq_getElem h0)
      have ha := addr_plain hz (by omega)
      refine ⟨a.block, a.off, by rw [← ha], by have := World.block_lt_of_cell? w _ hz; rw [ha] at this; simpa [Addr.add] using this, fun i j hi hj => ?_⟩
      obtain ⟨n', hn'⟩ := hc i (by omega)
      obtain ⟨v', y', hz', _⟩ := hn' j _ (Array.getElem?_eq_getElem hj)
      simp only [hz', Option.getD_some]
      rw [← hz', ha, Addr.add_mid]
      simp [Nat.add_assoc]
    · obtain ⟨n', hn'⟩ := hc i (by omega)
      obtain ⟨v', y', hz', ht'⟩ := hn' j f hj
      exact ⟨n', y', by simpa only [hz', Option.getD_some] using ht'⟩
theorem slice_form {t e : TypeId} {fuel : Nat} {V : Value} {x : DataW H × List MemPlace} (ht : P.underlying t = some (.slice e)) (h : DataW.trod enc P w base spare held fuel t [V] = some x) : ∃ ao l c, V = .slice ao l c := by
  rcases open_slice ht h with ⟨hcs, _⟩ | ⟨a, l, c, m, n, D, Pl, hcs, _⟩
  · exact ⟨none, 0, 0, by simpa using hcs⟩
  · exact ⟨some a, l, c, by simpa using hcs⟩
end
end Go.Proofs.Ytpiijcjbphpffaa
