/-
  How rows of bytes that came in are told to the walks of the log's laws. No condition.
-/
import Derived.Test.YtihpobpkhhkejaaRowS
import Derived.Test.YtihpobpkhhkejaaWSame
set_option autoImplicit false
namespace Go.Proofs.Ytihpobpkhhkejaa
open Go.ChangeShapes Go.WideShapes Go.ChangeAt Go.RowKit Go.Deep

section
variable {H : Type} {enc : TypeId × Value → H} {w : World} {base : Nat} {held : Bool}
theorem bytR_of {fuel : Nat} {ao : Option Addr} {len cap : Nat} {x : DataW H × List MemPlace} (h : DataW.trod enc Try.prog w base (fun _ => true) held fuel 22 (Value.slice ao len cap).cells.toList = some x) :
    ∃ xs, BytR w (fun k => w.heap.size ≤ k) (.slice ao len cap) xs ∧ xs.length = len ∧ (len = 0 ∨ ∃ el sp, x.1 = .slice el sp ∧ el.length = len) := by
  obtain ⟨V, hm, hrd, hV⟩ := slice1_rd Try.underlying22 (by kernel_rfl) (p := fun V => V = .int .u8 (intOf V) ∧ 0 ≤ intOf V ∧ intOf V ≤ 255) (fun V n y h => u8_of Try.underlying5 h) h
  refine ⟨(List.range len).map (fun i => intOf (V i)), ⟨fun b hb => ?_, by simpa using hm, ao, cap, by simp, fun hp => ?_⟩, by simp, ?_⟩
  · obtain ⟨i, hi, rfl⟩ := List.mem_map.1 hb
    exact (hV i (List.mem_range.1 hi)).2
  · obtain ⟨b, o, rfl, hb, hc⟩ := hrd (by simpa using hp)
    refine ⟨b, o, rfl, ⟨hb, by omega⟩, fun j hj => ?_⟩
    have hj2 : j < len := by simpa using hj
    have h1 := hc j 0 hj2 (by omega)
    simp only [Nat.mul_one, Nat.add_zero] at h1
    rw [h1, (hV j hj2).1]
    simp [intOf]
  · rcases open_slice Try.underlying22 h with ⟨hcs, _⟩ | ⟨a, l, c, m, n, D, Pl, hcs, _, hl, hm2, hmm, rfl, hc⟩
    · simp [Value.cells] at hcs
      exact .inl hcs.2.1
    · simp [Value.cells] at hcs
      obtain ⟨rfl, rfl, rfl⟩ := hcs
      exact .inr ⟨_, _, rfl, by simp⟩
theorem BytR.plain {v : Value} {xs : List Int} (h : BytR w (fun k => w.heap.size ≤ k) v xs) : BytR w (fun _ => False) v xs := h.weaken (fun _ _ h => h.elim)
end
end Go.Proofs.Ytihpobpkhhkejaa
