/-
  The walk of DiskKeeps: it returns true, for every list of writes ahead of the Sync and behind it, and every list of what is kept. Condition: the lists are of at most 1048576 elements.
-/
import Derived.Test.YtihpobpkhhkejaaD3AllLaw
import Derived.Test.YtihpobpkhhkejaaSecEq
set_option autoImplicit false
namespace Go.Proofs.Ytihpobpkhhkejaa
open Go Go.RowKit

/-- four bytes of one's own -/
def Want (w : World) (g : Nat) (f : Nat → Int) : Prop := ∃ cs, w.heap[g]? = some (.cells cs 27 (0, 0)) ∧ cs.size = 4 ∧ ∀ i, i < 4 → cs[i]? = some (.int .u8 (f i))
def fupd (f : Nat → Int) (n : Nat) (b : Int) (i : Nat) : Int := if i = n then b else f i
theorem Want.set {w : World} {g : Nat} {f : Nat → Int} (h : Want w g f) (n : Nat) (b : Int) (hn : n < 4) : Want (w.setCell ⟨g, n, none⟩ (.int .u8 b)) g (fupd f n b) := by
  obtain ⟨cs, h1, h2, h3⟩ := h
  refine ⟨_, hset_eq h1, by simpa using h2, fun i hi => ?_⟩
  rw [Array.getElem?_setIfInBounds]
  unfold fupd
  by_cases hik : n = i
  · subst hik; rw [if_pos rfl, if_pos (by omega), if_pos rfl]
  · rw [if_neg hik, h3 i hi, if_neg (by omega)]
theorem Want.cell {w : World} {g : Nat} {f : Nat → Int} (h : Want w g f) {n : Nat} (hn : n < 4) : w.cell? ⟨g, n, none⟩ = some (.int .u8 (f n)) := by
  obtain ⟨cs, h1, h2, h3⟩ := h
  rw [cell_of_row w g n _ _ _ h1, h3 n hn]
theorem Want.free {w : World} {g : Nat} {f : Nat → Int} (h : Want w g f) (n : Nat) : w.frozen? ⟨g, n, none⟩ = false := by
  obtain ⟨cs, h1, h2, h3⟩ := h
  exact frozen_of_row w g n _ _ h1
theorem Want.lt {w : World} {g : Nat} {f : Nat → Int} (h : Want w g f) : g < w.heap.size := by
  obtain ⟨cs, h1, h2, h3⟩ := h
  exact lt_of_heap h1
theorem Want.chg {w w' : World} {g : Nat} {f : Nat → Int} {F : Nat → Prop} (h : Want w g f) (c : Chg F w w') (hg : ¬ F g) : Want w' g f := by
  obtain ⟨cs, h1, h2, h3⟩ := h
  exact ⟨cs, c.heap h1 hg, h2, h3⟩
theorem Want.alloc {w : World} {g : Nat} {f : Nat → Int} (h : Want w g f) (o : Obj) : Want (w.alloc o) g f := h.chg ((Chg.refl (fun _ => False) w).alloc o) (fun h => h)
theorem Want.drew {w : World} {g : Nat} {f : Nat → Int} (h : Want w g f) : Want w.drew g f := h.chg (Chg.refl (fun _ => False) w).drew (fun h => h)
theorem Want.own {w w' : World} {B g : Nat} {L : List Nat} {f : Nat → Int} (h : Want w g f) (c : Own B L w w') (hg : g ∈ L) : Want w' g f := by
  obtain ⟨cs, h1, h2, h3⟩ := h
  exact ⟨cs, c.heap hg h1, h2, h3⟩
/-- a cell of one's own beside the disk -/
theorem Dk.cell {B g i r : Nat} {L : List Nat} {w : World} {D : Dsk} (h : Dk B L w r D) (hg : g ∈ L) (v : Value) : Dk B L (w.setCell ⟨g, i, none⟩ v) r D :=
  ⟨h.at_.chg (G := fun x => x = g) ((Chg.refl (fun x => x = g) w).setCell (p := ⟨g, i, none⟩) (.inl rfl) v) (fun k hk e => by subst e; exact hk.2 hg), by have := h.le; simpa using this, fun k hk => by have := h.lt k hk; simpa using this⟩
/-- all from block B on -/
def From (B : Nat) (w w' : World) : Prop := Chg (fun x => B ≤ x) w w'
theorem From.own {B : Nat} {L : List Nat} {a b c : World} (h : From B a b) (k : Own B L b c) : From B a c := Chg.trans h k (fun _ h => .inl h.1)
theorem From.cell {B : Nat} {a b : World} (h : From B a b) {g i : Nat} (hg : B ≤ g) (v : Value) : From B a (b.setCell ⟨g, i, none⟩ v) := Chg.setCell h (.inl hg) v
theorem From.alloc {B : Nat} {a b : World} (h : From B a b) (o : Obj) : From B a (b.alloc o) := Chg.alloc h o
theorem From.at {B : Nat} {a b : World} (h : From B a b) {k i : Nat} {v : Value} (hk : k < B) (hl : a.cell? ⟨k, i, none⟩ = some v) : b.cell? ⟨k, i, none⟩ = some v :=
  (cell_of_heap (h.keep k (World.block_lt_of_cell? a _ hl) (fun h => by omega))).trans hl
theorem From.drew {B : Nat} {a b : World} (h : From B a b) : From B a b.drew := Chg.drew h

/-! the laws -/
structure Keep1 (k : Nat) (D : Dsk) (f : Nat → Int) : Prop where
  calm : D.calm
  size : D.size = 4
  wait : D.wait.length = k
  same : keepAll D.kept D.wait = D.now
  vals : ∀ i : Nat, i < 4 → D.now i = secB (f i)
theorem Keep1.start : Keep1 0 (Dsk.new 4) (fun _ => 0) := ⟨new_calm 4, rfl, rfl, rfl, fun _ _ => rfl⟩
theorem Keep1.put {k : Nat} {D : Dsk} {f : Nat → Int} (h : Keep1 k D f) (n : Nat) (b : Int) : Keep1 (k + 1) (D.put n (secB b)) (fupd f n b) := by
  refine ⟨h.calm, h.size, by simp [Dsk.put, h.wait], ?_, fun i hi => ?_⟩
  · show keepAll D.kept (D.wait ++ [((n : Int), secB b)]) = upd D.now n (secB b)
    rw [keepAll_append, h.same]
  · show upd D.now n (secB b) i = _
    unfold upd fupd
    by_cases hin : i = n
    · rw [if_pos (by omega), if_pos hin]
    · rw [if_neg (by omega), if_neg hin, h.vals i hi]
theorem keepTo_prefix (f : Int → Sec) (l m : List (Int × Sec)) (ks : List Bool) : ∀ k, k ≤ l.length → keepTo f (l ++ m) ks k = keepTo f l ks k := by
  intro k
  induction k with
  | zero => intro _; rfl
  | succ k ih =>
    intro hk
    simp only [keepTo]
    rw [List.getElem?_append_left (by omega), ih (by omega)]
theorem keepTo_not (f : Int → Sec) (l : List (Int × Sec)) (ks : List Bool) (x : Int) (h : x ∉ l.map (·.1)) : ∀ k, keepTo f l ks k x = f x := by
  intro k
  induction k with
  | zero => rfl
  | succ k ih =>
    simp only [keepTo]
    cases h1 : l[k]? with
    | none => exact ih
    | some y =>
      cases h2 : ks[k]? with
      | none => exact ih
      | some b =>
        cases b with
        | false => exact ih
        | true =>
          show upd _ y.1 y.2 x = f x
          unfold upd
          rw [if_neg, ih]
          intro e
          exact h (by rw [e]; exact List.mem_map_of_mem (List.mem_of_getElem? h1))
structure Keep2 (ks : List Bool) (k : Nat) (D : Dsk) (f : Nat → Int) : Prop where
  calm : D.calm
  size : D.size = 4
  wait : D.wait.length = k
  same : keepAll D.kept D.wait = D.now
  vals : ∀ i : Nat, i < 4 → keepTo D.kept D.wait ks k i = secB (f i)
theorem Keep1.flat {k : Nat} {D : Dsk} {f : Nat → Int} (h : Keep1 k D f) (ks : List Bool) : Keep2 ks 0 D.flat f :=
  ⟨h.calm, h.size, rfl, h.same, fun i hi => by show keepAll D.kept D.wait i = _; rw [h.same, h.vals i hi]⟩
theorem Keep2.yes {ks : List Bool} {k : Nat} {D : Dsk} {f : Nat → Int} (h : Keep2 ks k D f) (hk : ks[k]? = some true) (n : Nat) (b : Int) : Keep2 ks (k + 1) (D.put n (secB b)) (fupd f n b) := by
  refine ⟨h.calm, h.size, by simp [Dsk.put, h.wait], ?_, fun i hi => ?_⟩
  · show keepAll D.kept (D.wait ++ [((n : Int), secB b)]) = upd D.now n (secB b)
    rw [keepAll_append, h.same]
  · show keepTo D.kept (D.wait ++ [((n : Int), secB b)]) ks (k + 1) i = _
    have hl : (D.wait ++ [((n : Int), secB b)])[k]? = some ((n : Int), secB b) := by rw [← h.wait]; simp
    simp only [keepTo, hl, hk]
    rw [keepTo_prefix _ _ _ _ _ (by rw [h.wait]; exact Nat.le_refl k)]
    unfold upd fupd
    by_cases hin : i = n
    · rw [if_pos (show (i : Int) = n by omega), if_pos hin]
    · rw [if_neg (show ¬ (i : Int) = n by omega), if_neg hin, h.vals i hi]
theorem Keep2.no {ks : List Bool} {k : Nat} {D : Dsk} {f : Nat → Int} (h : Keep2 ks k D f) (hk : ks[k]? ≠ some true) (n : Nat) (b : Int) : Keep2 ks (k + 1) (D.put n (secB b)) f := by
  refine ⟨h.calm, h.size, by simp [Dsk.put, h.wait], ?_, fun i hi => ?_⟩
  · show keepAll D.kept (D.wait ++ [((n : Int), secB b)]) = upd D.now n (secB b)
    rw [keepAll_append, h.same]
  · show keepTo D.kept (D.wait ++ [((n : Int), secB b)]) ks (k + 1) i = _
    have e : keepTo D.kept (D.wait ++ [((n : Int), secB b)]) ks (k + 1) = keepTo D.kept (D.wait ++ [((n : Int), secB b)]) ks k := by
      simp only [keepTo]
      split
      · rename_i h2 h3; exact absurd h3 hk
      · rfl
    rw [e, keepTo_prefix _ _ _ _ _ (by rw [h.wait]; exact Nat.le_refl k), h.vals i hi]
structure Keep3 (D : Dsk) (f : Nat → Int) : Prop where
  calm : D.calm
  size : D.size = 4
  wait : D.wait = []
  vals : ∀ i : Nat, i < 4 → D.now i = secB (f i)
theorem Keep2.restart {ks : List Bool} {k : Nat} {D : Dsk} {f : Nat → Int} (h : Keep2 ks k D f) : Keep3 (D.restart ks) f := by
  refine ⟨restart_calm ks, h.size, rfl, fun i hi => ?_⟩
  rw [restart_now]
  split
  · rw [h.wait, h.vals i hi]
  · rename_i hx
    rw [← h.vals i hi, keepTo_not _ _ _ _ hx, ← h.same, keepAll_not _ _ _ hx]
theorem Keep3.restart {D : Dsk} {f : Nat → Int} (h : Keep3 D f) (ks : List Bool) : Keep3 (D.restart ks) f := by
  refine ⟨restart_calm ks, h.size, rfl, fun i hi => ?_⟩
  rw [restart_now, h.wait, if_neg (by simp), h.vals i hi]
end Go.Proofs.Ytihpobpkhhkejaa
