/-
  Slices of bools that a call has made for itself, and the row of transactions: how one more is appended. No condition beyond each lemma's own.
-/
import Derived.Test.YtkneldeemlngkaaIRow
import Derived.Test.YtkneldeemlngkaaMRBook
set_option autoImplicit false
namespace Go.Proofs.Ytkneldeemlngkaa
open Go Go.RowKit

theorem bool_infoB : (Try.prog.info? 4).map (fun i => (i.size, i.bytes, (i.zero.getD undef).cells.size, i.zero.isSome)) = some (1, 1, 1, true) := by kernel_rfl
theorem bool_info : ∃ i z, Try.prog.info? 4 = some i ∧ i.zero = some z ∧ i.size = 1 ∧ i.bytes = 1 ∧ z.cells.size = 1 := by
  obtain ⟨i, hi, hzz⟩ := Option.map_eq_some_iff.1 bool_infoB
  simp only [Prod.mk.injEq] at hzz
  obtain ⟨z, hz⟩ := Option.isSome_iff_exists.1 hzz.2.2.2
  refine ⟨i, z, hi, hz, hzz.1, hzz.2.1, ?_⟩
  have := hzz.2.2.1
  rw [hz] at this
  exact this
structure Bls (w : World) (lo : Nat) (v : Value) (xs : List Bool) : Prop where
  row : w.ownsRow 0 4 1 v xs.length (xs.map Value.bool)
  lo : ∀ g, v.ownBlock = some g → lo ≤ g
theorem Bls.nil (w : World) (lo : Nat) : Bls w lo (.slice none 0 0) [] := ⟨World.ownsRow_nil _ _ _ _, fun g hg => by simp [Value.ownBlock] at hg⟩
section
variable {w w' : World} {lo : Nat} {v u : Value} {xs : List Bool} {G : Nat → Prop}
theorem Bls.lt (h : Bls w lo v xs) {g : Nat} (hg : v.ownBlock = some g) : g < w.heap.size := ownsRow_lt h.row hg
theorem Bls.chg (h : Bls w lo v xs) (c : Chg G w w') (hG : ∀ g, v.ownBlock = some g → ¬ G g) : Bls w' lo v xs := ⟨ownsRow_chg h.row c hG, h.lo⟩
theorem Bls.quiet (h : Bls w lo v xs) (c : Chg (fun _ => False) w w') : Bls w' lo v xs := h.chg c (fun _ _ h => h)
theorem Bls.seen (h : Bls w lo v xs) : SeenAt w (fun k => lo ≤ k) v xs := by
  rcases h.row.2 with ⟨rfl, hn⟩ | ⟨g, cap, cur, rfl, hb, hg, r1, r2, r3, r4⟩
  · exact ⟨none, 0, by rw [hn], fun h => by omega⟩
  · refine ⟨some ⟨g, 0, none⟩, cap, rfl, fun _ => ⟨g, 0, rfl, lt_of_heap hg, h.lo g rfl, fun j k hj => ?_⟩⟩
    have := h.row.cells (g := g) rfl j (.bool k) (by rw [List.getElem?_map, hj]; rfl)
    rw [Addr.add_mid] at this
    exact this
end
/-- one more -/
theorem bls_app {ops : Array Oper} {rest : List Oper} {o : Oper} {a : Act} {Q : Exit → Act → World → Prop} {w : World} (hgd : o.guard = none) (s x : Operand)
    (ho : o.op = .call { callee := .builtin .append, args := #[s, x], argTypes := #[61, 61] }) (lo : Nat) (v : Value) (xs : List Bool) (hs : a.eval s = v) (h : Bls w lo v xs) (blk : Nat) (y : Bool) (hx : a.eval x = .slice (some ⟨blk, 0, none⟩) 1 1)
    (hb : w.heap[blk]? = some (.cells #[.bool y] 4 (0, 0))) (hlen : xs.length < 20000000000000) (hlo : lo ≤ w.heap.size)
    (k : ∀ v' w', Bls w' lo v' (xs ++ [y]) → Chg (fun k => v.ownBlock = some k) w w' → (∀ g, v'.ownBlock = some g → v.ownBlock = some g ∨ g = w.heap.size) → wpList Try.prog ops Q rest (a.put o.dst v') w') : wpList Try.prog ops Q (o :: rest) a w := by
  obtain ⟨i0, z0, hi0, hz0, hs0, hb0, hzs0⟩ := bool_info
  refine wpList_app w hgd s x 61 ho 4 i0 z0 1 1 Try.underlying61 hi0 hz0 hs0 hb0 hzs0 v xs.length (xs.map Value.bool) hs h.row _ 1 1 [.bool y] hx rfl (fun h => by cases h) ?_ (by simp [Value.oneCell']) (by unfold maxLen; omega) (by omega) ?_
  · intro ad had
    obtain rfl := Option.some.inj had
    exact World.news_of_block hb
  · intro v' w' r g hat _ _
    have hlo' : ∀ g, v'.ownBlock = some g → v.ownBlock = some g ∨ g = w.heap.size := fun g hg => by
      rcases hat with h1 | h1
      · exact .inl (by rw [← h1]; exact hg)
      · rw [h1] at hg; exact .inr (by simpa using hg.symm)
    refine k v' w' ⟨by simpa using r, fun g hg => ?_⟩ ?_ hlo'
    · rcases hlo' g hg with h1 | h1
      · exact h.lo g h1
      · omega
    · exact (Chg.refl (fun k => v.ownBlock = some k) w).grown g (fun k hk => .inl hk)
/-! the row of transactions -/
theorem tx_infoB : (Try.prog.info? 63).map (fun i => (i.size, i.bytes, (i.zero.getD undef).cells.size, i.zero.isSome)) = some (3, 40, 3, true) := by kernel_rfl
theorem tx_info : ∃ i z, Try.prog.info? 63 = some i ∧ i.zero = some z ∧ i.size = 3 ∧ i.bytes = 40 ∧ z.cells.size = 3 := by
  obtain ⟨i, hi, hzz⟩ := Option.map_eq_some_iff.1 tx_infoB
  simp only [Prod.mk.injEq] at hzz
  obtain ⟨z, hz⟩ := Option.isSome_iff_exists.1 hzz.2.2.2
  refine ⟨i, z, hi, hz, hzz.1, hzz.2.1, ?_⟩
  have := hzz.2.2.1
  rw [hz] at this
  exact this
/-- one more -/
theorem tx_app {ops : Array Oper} {rest : List Oper} {o : Oper} {a : Act} {Q : Exit → Act → World → Prop} {w : World} (hgd : o.guard = none) (s x : Operand)
    (ho : o.op = .call { callee := .builtin .append, args := #[s, x], argTypes := #[47, 47] }) (v : Value) (us : List (TxA × Value)) (hs : a.eval s = v) (h : w.ownsRow 0 63 3 v us.length (us.flatMap txC)) (blk : Nat) (y : TxA) (sv : Value) (hx : a.eval x = .slice (some ⟨blk, 0, none⟩) 1 1)
    (hb : w.heap[blk]? = some (.cells #[.int .i64 y.st, sv, .bool y.old] 63 (0, 0))) (h1 : sv.oneCell' = true) (hlen : us.length < 200000000000)
    (k : ∀ v' w', w'.ownsRow 0 63 3 v' (us.length + 1) (us.flatMap txC ++ txC (y, sv)) → w.grownBy w' v.ownBlock → (v'.ownBlock = v.ownBlock ∨ v'.ownBlock = some w.heap.size) → (∃ g cap, v' = .slice (some ⟨g, 0, none⟩) (us.length + 1) cap) → wpList Try.prog ops Q rest (a.put o.dst v') w') : wpList Try.prog ops Q (o :: rest) a w := by
  obtain ⟨i0, z0, hi0, hz0, hs0, hb0, hzs0⟩ := tx_info
  refine wpList_app w hgd s x 47 ho 63 i0 z0 3 40 Try.underlying47 hi0 hz0 hs0 hb0 hzs0 v us.length (us.flatMap txC) hs h _ 1 1 (txC (y, sv)) hx rfl (fun h => by cases h) ?_ ?_ (by unfold maxLen; omega) (by omega) ?_
  · intro ad had
    obtain rfl := Option.some.inj had
    exact World.news_of_block hb
  · intro u hu
    simp only [txC, List.mem_cons, List.not_mem_nil, or_false] at hu
    rcases hu with rfl | rfl | rfl
    · rfl
    · exact h1
    · rfl
  · intro v' w' r g hat _ hf
    obtain ⟨g2, cap, e, _⟩ := hf (by omega)
    exact k v' w' r g hat ⟨g2, cap, e⟩
end Go.Proofs.Ytkneldeemlngkaa
