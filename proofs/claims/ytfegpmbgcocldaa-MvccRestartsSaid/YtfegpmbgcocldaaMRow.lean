/-
  What the rows' proofs of the book of transactions share: scripts that came in. No condition.
-/
import Derived.Test.YtfegpmbgcocldaaRowS
import Derived.Test.YtfegpmbgcocldaaMPlays
set_option autoImplicit false
namespace Go.Proofs.Ytfegpmbgcocldaa
open Go.ChangeShapes Go.WideShapes Go.ChangeAt Go.RowKit Go.Deep

theorem opFields19 : ∃ fs : Array Field, Try.prog.underlying 49 = some (.struct fs) ∧ oneCellFields Try.prog fs = true ∧ Try.prog.cellsOf 49 = fs.size ∧ fs.size = 3 ∧ (∃ f, fs[0]? = some f ∧ f.type = 3) ∧ (∃ f, fs[1]? = some f ∧ f.type = 3) ∧ (∃ f, fs[2]? = some f ∧ f.type = 3) :=
  ⟨_, Try.underlying49, by kernel_rfl, by kernel_rfl, rfl, ⟨_, rfl, rfl⟩, ⟨_, rfl, rfl⟩, ⟨_, rfl, rfl⟩⟩
def inR (x : Int) : Prop := -9223372036854775808 ≤ x ∧ x ≤ 9223372036854775807
set_option maxRecDepth 100000 in
theorem ops19_rd {H : Type} {enc : TypeId × Value → H} {w : World} {base : Nat} {held : Bool} {fuel : Nat} {ao : Option Addr} {len cap : Nat} {x : DataW H × List MemPlace}
    (h : DataW.trod enc Try.prog w base (fun _ => true) held fuel 35 (Value.slice ao len cap).cells.toList = some x) :
    ∃ (K T U : Nat → Int), len ≤ maxLen ∧ SlRd w ao len 3 (opsV K T U) ∧ ∀ i, i < len → inR (K i) ∧ inR (T i) ∧ inR (U i) := by
  obtain ⟨fs, hu, hone, hC, h3, ⟨f0, e0, t0⟩, ⟨f1, e1, t1⟩, ⟨f2, e2, t2⟩⟩ := opFields19
  obtain ⟨V, hm, hrd, hel, hf⟩ := fields_rd Try.underlying35 hu hone hC (by omega) h
  have g0 : ∀ i, i < len → V i 0 = .int .i64 (intOf (V i 0)) ∧ inR (intOf (V i 0)) := fun i hi => by
    obtain ⟨n, y, h0⟩ := hf i hi 0 f0 e0
    rw [t0] at h0
    exact i64_of Try.underlying3 h0
  have g1 : ∀ i, i < len → V i 1 = .int .i64 (intOf (V i 1)) ∧ inR (intOf (V i 1)) := fun i hi => by
    obtain ⟨n, y, h0⟩ := hf i hi 1 f1 e1
    rw [t1] at h0
    exact i64_of Try.underlying3 h0
  have g2 : ∀ i, i < len → V i 2 = .int .i64 (intOf (V i 2)) ∧ inR (intOf (V i 2)) := fun i hi => by
    obtain ⟨n, y, h0⟩ := hf i hi 2 f2 e2
    rw [t2] at h0
    exact i64_of Try.underlying3 h0
  refine ⟨fun i => intOf (V i 0), fun i => intOf (V i 1), fun i => intOf (V i 2), hm, fun hp => ?_, fun i hi => ⟨(g0 i hi).2, (g1 i hi).2, (g2 i hi).2⟩⟩
  obtain ⟨b, o, e, hl, hc⟩ := hrd hp
  rw [h3] at hc
  refine ⟨b, o, e, hl, fun i j hi hj => ?_⟩
  rw [hc i j hi hj]
  match j, hj with
  | 0, _ => exact congrArg some (g0 i hi).1
  | 1, _ => exact congrArg some (g1 i hi).1
  | 2, _ => exact congrArg some (g2 i hi).1
end Go.Proofs.Ytfegpmbgcocldaa
