/-
  What the document's book does: New. No condition beyond each lemma's own.
-/
import Derived.Test.YtkneldeemlngkaaMRCallD
set_option autoImplicit false
namespace Go.Proofs.Ytkneldeemlngkaa
open Go Go.RowKit

def mkTx (f : Int → Int) (n : Nat) : List (TxA × Value) := (List.range n).map fun (t : Nat) => (⟨f t, [], true⟩, .slice none 0 0)
theorem mkTx_len (f : Int → Int) (n : Nat) : (mkTx f n).length = n := by unfold mkTx; simp
theorem mkTx_succ (f : Int → Int) (n : Nat) : mkTx f (n + 1) = mkTx f n ++ [(⟨f n, [], true⟩, .slice none 0 0)] := by
  unfold mkTx; rw [List.range_succ, List.map_append]; rfl
theorem mkTx_get (f : Int → Int) {n k : Nat} (h : k < n) : (mkTx f n)[k]? = some (⟨f k, [], true⟩, .slice none 0 0) := by
  unfold mkTx; rw [List.getElem?_map, List.getElem?_range h]; rfl
theorem mkTx_set (f : Int → Int) (n k : Nat) (s : Int) : (mkTx f n).set k (⟨s, [], true⟩, .slice none 0 0) = mkTx (fun t => if t = k then s else f t) n := by
  refine List.ext_getElem? (fun i => ?_)
  rw [List.getElem?_set]
  by_cases hi : i < n
  · by_cases hk : k = i
    · subst hk
      rw [if_pos rfl, if_pos (by rw [mkTx_len]; exact hi), mkTx_get _ hi]
      simp
    · rw [if_neg hk, mkTx_get _ hi, mkTx_get _ hi, if_neg (by omega)]
  · have e1 : (mkTx f n)[i]? = none := List.getElem?_eq_none (by rw [mkTx_len]; omega)
    have e2 : (mkTx (fun t => if t = k then s else f t) n)[i]? = none := List.getElem?_eq_none (by rw [mkTx_len]; omega)
    rw [e2, e1]
    split
    · rw [if_neg (by rw [mkTx_len]; omega)]
    · rfl
theorem mkTx_congr {f g : Int → Int} {n : Nat} (h : ∀ t : Nat, t < n → f t = g t) : mkTx f n = mkTx g n := by
  unfold mkTx
  refine List.map_congr_left (fun t ht => ?_)
  rw [h t (List.mem_range.1 ht)]
structure Made (w0 w : World) (b : Nat) (mo : Int) (v : Value) (us : List (TxA × Value)) : Prop where
  self : w.heap[b]? = some (.cells #[v, .int .i64 mo] 49 (0, 0))
  row : w.ownsRow 0 63 3 v us.length (us.flatMap txC)
  own : ∀ g, v.ownBlock = some g → w0.heap.size ≤ g ∧ g ≠ b
  hb : w0.heap.size ≤ b
  chg : Chg (fun _ => False) w0 w
section
variable {w0 w w' : World} {b : Nat} {mo : Int} {v : Value} {us : List (TxA × Value)}
theorem Made.quiet (h : Made w0 w b mo v us) (x : Chg (fun _ => False) w w') : Made w0 w' b mo v us :=
  ⟨x.heap h.self (fun h => h), ownsRow_chg h.row x (fun _ _ h => h), h.own, h.hb, h.chg.trans x (fun _ h => h.elim)⟩
theorem Made.push {w8 : World} {v8 : Value} {us8 : List (TxA × Value)} (h : Made w0 w b mo v us) (row8 : w8.ownsRow 0 63 3 v8 us8.length (us8.flatMap txC)) (hg : w.grownBy w8 v.ownBlock) (hv : v8.ownBlock = v.ownBlock ∨ v8.ownBlock = some w.heap.size) :
    Made w0 (w8.setCell ⟨b, 0, none⟩ v8) b mo v8 us8 := by
  have c : Chg (fun q => v.ownBlock = some q) w w8 := (Chg.refl (fun q => v.ownBlock = some q) w).grown hg (fun k hk => .inl hk)
  have c2 : Chg (fun q => q = b) w8 (w8.setCell ⟨b, 0, none⟩ v8) := (Chg.refl (fun q => q = b) w8).setCell (p := ⟨b, 0, none⟩) (.inl rfl) _
  have hbl := lt_of_heap h.self
  have ho : ∀ g, v8.ownBlock = some g → w0.heap.size ≤ g ∧ g ≠ b := fun g hg => by
    rcases hv with h1 | h1
    · exact h.own g (h1 ▸ hg)
    · rw [h1] at hg
      have h2 := Option.some.inj hg
      have := h.chg.size
      exact ⟨by omega, by omega⟩
  refine ⟨?_, ownsRow_chg row8 c2 (fun g hg => (ho g hg).2), ho, h.hb, (h.chg.trans c (fun q hq => .inr (h.own q hq).1)).trans c2 (fun q hq => .inr (by rw [hq]; exact h.hb))⟩
  have h1 := c.heap h.self (fun e => (h.own b e).2 rfl)
  rw [hset_eq h1]
  rfl
theorem Made.set {f : Int → Int} {n : Nat} (h : Made w0 w b mo v (mkTx f n)) {g k : Nat} (hg : v.ownBlock = some g) (hk : k < n) (s : Int) : Made w0 (w.setCell ⟨g, k * 3, none⟩ (.int .i64 s)) b mo v (mkTx (fun t => if t = k then s else f t) n) := by
  have c : Chg (fun q => q = g) w (w.setCell ⟨g, k * 3, none⟩ (.int .i64 s)) := (Chg.refl (fun q => q = g) w).setCell (p := ⟨g, k * 3, none⟩) (.inl rfl) _
  refine ⟨c.heap h.self (fun e => (h.own g hg).2 e.symm), ?_, h.own, h.hb, h.chg.trans c (fun q hq => .inr (by rw [hq]; exact (h.own g hg).1))⟩
  have := ownsRow_put (i := k * 3) (u := .int .i64 s) h.row hg
  rw [flat_set (mkTx f n) k _ s (mkTx_get f hk)] at this
  rw [← mkTx_set, List.length_set]
  exact this
theorem Made.book {f : Int → Int} {n : Nat} (h : Made w0 w b mo v (mkTx f n)) (h1 : 1 ≤ n) (h2 : (n : Int) ≤ mo + 1) (h3 : mo ≤ 16777216) : RBookAt w b (Ext (fun _ => False) w0 w) ⟨(mkTx f n).map (·.1), mo⟩ := by
  refine ⟨v, mkTx f n, h.self, h.row, rfl, fun x hx => ?_, .inr ⟨h.hb, lt_of_heap h.self⟩, fun g hg => .inr ⟨(h.own g hg).1, ownsRow_lt h.row hg⟩, ?_⟩
  · obtain ⟨t, _, rfl⟩ := List.mem_map.1 hx
    exact ⟨none, 0, rfl, fun h => by simp at h⟩
  · refine ⟨by simp [mkTx_len]; omega, by simp [mkTx_len]; omega, h3, fun x hx => ?_⟩
    obtain ⟨y, hy, rfl⟩ := List.mem_map.1 hx
    obtain ⟨t, _, rfl⟩ := List.mem_map.1 hy
    exact Nat.zero_le _
end
/-- of the books that New makes the states are told by a rule -/
theorem start_mk (nx mo : Int) (V : Nat → Int) (len : Nat) : RBk.start nx mo V len = ⟨(mkTx (fun t => if t = 0 then 0 else if isIn V len t then 2 else 3) nx.toNat).map (·.1), mo⟩ := by
  unfold RBk.start mkTx
  rw [List.map_map]
  congr 1
  refine List.map_congr_left (fun t _ => ?_)
  have : ((t : Int) = 0) = (t = 0) := by apply propext; omega
  simp
end Go.Proofs.Ytkneldeemlngkaa
