/-
  Slices of numbers that a call has made for itself: how they are read and appended to. No condition beyond each lemma's own.
-/
import Derived.Test.YtkneldeemlngkaaProg
import Derived.Test.YtkneldeemlngkaaBase
import Derived.KernelRfl
set_option autoImplicit false
namespace Go.Proofs.Ytkneldeemlngkaa
open Go Go.RowKit

theorem int_infoB : (Try.prog.info? 3).map (fun i => (i.size, i.bytes, (i.zero.getD undef).cells.size, i.zero.isSome)) = some (1, 8, 1, true) := by kernel_rfl
theorem int_info : ∃ i z, Try.prog.info? 3 = some i ∧ i.zero = some z ∧ i.size = 1 ∧ i.bytes = 8 ∧ z.cells.size = 1 := by
  obtain ⟨i, hi, hzz⟩ := Option.map_eq_some_iff.1 int_infoB
  simp only [Prod.mk.injEq] at hzz
  obtain ⟨z, hz⟩ := Option.isSome_iff_exists.1 hzz.2.2.2
  refine ⟨i, z, hi, hz, hzz.1, hzz.2.1, ?_⟩
  have := hzz.2.2.1
  rw [hz] at this
  exact this
structure Ints (w : World) (lo : Nat) (v : Value) (xs : List Int) : Prop where
  row : w.ownsRow 0 3 1 v xs.length (xs.map (Value.int .i64))
  lo : ∀ g, v.ownBlock = some g → lo ≤ g
def Apart (v u : Value) : Prop := ∀ g, v.ownBlock = some g → u.ownBlock ≠ some g
theorem Apart.symm {v u : Value} (h : Apart v u) : Apart u v := fun g hg e => h g e hg
theorem Ints.nil (w : World) (lo : Nat) : Ints w lo (.slice none 0 0) [] := ⟨World.ownsRow_nil _ _ _ _, fun g hg => by simp [Value.ownBlock] at hg⟩
theorem apart_nil (u : Value) : Apart (.slice none 0 0) u := fun g hg => by simp [Value.ownBlock] at hg
section
variable {w w' : World} {lo : Nat} {v u : Value} {xs : List Int} {G : Nat → Prop}
theorem Ints.lt (h : Ints w lo v xs) {g : Nat} (hg : v.ownBlock = some g) : g < w.heap.size := ownsRow_lt h.row hg
theorem Ints.chg (h : Ints w lo v xs) (c : Chg G w w') (hG : ∀ g, v.ownBlock = some g → ¬ G g) : Ints w' lo v xs := ⟨ownsRow_chg h.row c hG, h.lo⟩
theorem Ints.quiet (h : Ints w lo v xs) (c : Chg (fun _ => False) w w') : Ints w' lo v xs := h.chg c (fun _ _ h => h)
theorem Ints.form (h : Ints w lo v xs) : ∃ ao cap, v = .slice ao xs.length cap ∧ (0 < xs.length → ∃ g, ao = some ⟨g, 0, none⟩ ∧ v.ownBlock = some g ∧ ∀ j, (hj : j < xs.length) → w.cell? ⟨g, j, none⟩ = some (.int .i64 xs[j])) := by
  rcases h.row.2 with ⟨rfl, hn⟩ | ⟨g, cap, cur, rfl, hb, hg, r1, r2, r3, r4⟩
  · exact ⟨none, 0, by rw [hn], fun h => by omega⟩
  · refine ⟨some ⟨g, 0, none⟩, cap, rfl, fun _ => ⟨g, rfl, rfl, fun j hj => ?_⟩⟩
    have := h.row.cells (g := g) rfl j (.int .i64 xs[j]) (by simp [hj])
    have e : (⟨g, 0, none⟩ : Addr).add j = ⟨g, j, none⟩ := by
      unfold Addr.add
      split
      · rename_i h0; rw [h0]
      · rw [Nat.zero_add]
    rw [e] at this
    exact this
theorem Ints.len_le (h : Ints w lo v xs) : xs.length ≤ 9223372036854775807 := by
  rcases h.row.2 with ⟨rfl, hn⟩ | ⟨g, cap, cur, rfl, hb, hg, r1, r2, r3, r4⟩
  · omega
  · have := r2
    unfold maxLen at this
    omega
end
/-- one more -/
theorem ints_app {ops : Array Oper} {rest : List Oper} {o : Oper} {a : Act} {Q : Exit → Act → World → Prop} {w : World} (hgd : o.guard = none) (s x : Operand)
    (ho : o.op = .call { callee := .builtin .append, args := #[s, x], argTypes := #[28, 28] }) (lo : Nat) (v : Value) (xs : List Int) (hs : a.eval s = v) (h : Ints w lo v xs) (blk : Nat) (y : Int) (hx : a.eval x = .slice (some ⟨blk, 0, none⟩) 1 1)
    (hb : w.heap[blk]? = some (.cells #[.int .i64 y] 3 (0, 0))) (hlen : xs.length < 20000000000000) (hlo : lo ≤ w.heap.size)
    (k : ∀ v' w', Ints w' lo v' (xs ++ [y]) → Chg (fun k => v.ownBlock = some k) w w' → (∀ g, v'.ownBlock = some g → v.ownBlock = some g ∨ g = w.heap.size) → wpList Try.prog ops Q rest (a.put o.dst v') w') : wpList Try.prog ops Q (o :: rest) a w := by
  obtain ⟨i0, z0, hi0, hz0, hs0, hb0, hzs0⟩ := int_info
  refine wpList_app w hgd s x 28 ho 3 i0 z0 1 8 Try.underlying28 hi0 hz0 hs0 hb0 hzs0 v xs.length (xs.map (Value.int .i64)) hs h.row _ 1 1 [.int .i64 y] hx rfl (fun h => by cases h) ?_ (by simp [Value.oneCell']) (by unfold maxLen; omega) (by omega) ?_
  · intro ad had
    obtain rfl := Option.some.inj had
    exact World.news_of_block hb
  · intro v' w' r g hat _ _
    have hlo' : ∀ g, v'.ownBlock = some g → v.ownBlock = some g ∨ g = w.heap.size := fun g hg => by
      rcases hat with h1 | h1
      · exact .inl (by rw [← h1]; exact hg)
      · rw [h1] at hg; exact .inr (by simpa using hg.symm)
    refine k v' w' ⟨by simpa using r, fun g hg => ?_⟩ ?_ hlo'
    · rcases hlo' g hg with h1 | h1
      · exact h.lo g h1
      · omega
    · exact (Chg.refl (fun k => v.ownBlock = some k) w).grown g (fun k hk => .inl hk)
end Go.Proofs.Ytkneldeemlngkaa
