/-
  The document's disk in memory, and what its New, Read, Arm and change do. No condition beyond each lemma's own.
-/
import Derived.Test.YtihpobpkhhkejaaD3AllLaw
set_option autoImplicit false
namespace Go.Proofs.Ytihpobpkhhkejaa
open Go Go.RowKit

/-- what both disks agree on: the writes that wait are in range, and what is now is what is kept with them laid over it -/
def Dsk.inv (D : Dsk) : Prop := keepAll D.kept D.wait = D.now ∧ ∀ x ∈ D.wait, 0 ≤ x.1 ∧ x.1 < D.size
def keptC (D : Dsk) : List Value := (List.range D.size.toNat).flatMap fun (i : Nat) => secC (D.kept i)
structure RefIn (w : World) (r : Nat) (F : Nat → Prop) (D : Dsk) (kv wv : Value) : Prop where
  self : w.heap[r]? = some (.cells #[.int .i64 D.size, kv, wv, .bool D.down, .int .i64 D.left] 62 (0, 0))
  kept : w.ownsRow 0 31 64 kv D.size.toNat (keptC D)
  row : w.ownsRow 0 99 65 wv D.wait.length (D.wait.flatMap wrC)
  fr : F r
  fk : ∀ g, kv.ownBlock = some g → F g
  fw : ∀ g, wv.ownBlock = some g → F g
  ok : D.ok
  inv : D.inv
def RefAt (w : World) (r : Nat) (F : Nat → Prop) (D : Dsk) : Prop := ∃ kv wv, RefIn w r F D kv wv
theorem RefIn.ner {w r F D kv wv} (h : RefIn w r F D kv wv) : (∀ g, kv.ownBlock = some g → g ≠ r) ∧ (∀ g, wv.ownBlock = some g → g ≠ r) ∧ (∀ g, kv.ownBlock = some g → wv.ownBlock ≠ some g) := by
  refine ⟨fun g hg e => ?_, fun g hg e => ?_, fun g hg e => ?_⟩
  · obtain ⟨cur, hc⟩ := ownsRow_heap h.kept hg
    subst e
    rw [h.self] at hc
    simp at hc
  · obtain ⟨cur, hc⟩ := ownsRow_heap h.row hg
    subst e
    rw [h.self] at hc
    simp at hc
  · obtain ⟨cur, hc⟩ := ownsRow_heap h.kept hg
    obtain ⟨cur', hc'⟩ := ownsRow_heap h.row e
    rw [hc] at hc'
    simp at hc'
theorem RefIn.chg {w w' r F G D kv wv} (h : RefIn w r F D kv wv) (c : Chg G w w') (hd : ∀ k, F k → ¬ G k) : RefIn w' r F D kv wv :=
  ⟨c.heap h.self (hd _ h.fr), ownsRow_chg h.kept c (fun g hg => hd g (h.fk g hg)), ownsRow_chg h.row c (fun g hg => hd g (h.fw g hg)), h.fr, h.fk, h.fw, h.ok, h.inv⟩
theorem RefAt.chg {w w' : World} {r : Nat} {F G : Nat → Prop} {D : Dsk} (h : RefAt w r F D) (c : Chg G w w') (hd : ∀ k, F k → ¬ G k) : RefAt w' r F D := by
  obtain ⟨kv, wv, h⟩ := h
  exact ⟨kv, wv, h.chg c hd⟩
theorem RefIn.mono {w r F G D kv wv} (h : RefIn w r F D kv wv) (hG : ∀ k, F k → k < w.heap.size → G k) : RefIn w r G D kv wv :=
  ⟨h.self, h.kept, h.row, hG _ h.fr (lt_of_heap h.self), fun g hg => hG _ (h.fk g hg) (ownsRow_lt h.kept hg), fun g hg => hG _ (h.fw g hg) (ownsRow_lt h.row hg), h.ok, h.inv⟩
theorem RefAt.mono {w : World} {r : Nat} {F G : Nat → Prop} {D : Dsk} (h : RefAt w r F D) (hG : ∀ k, F k → k < w.heap.size → G k) : RefAt w r G D := by
  obtain ⟨kv, wv, h⟩ := h
  exact ⟨kv, wv, h.mono hG⟩
theorem RefAt.ok {w : World} {r : Nat} {F : Nat → Prop} {D : Dsk} (h : RefAt w r F D) : D.ok := by
  obtain ⟨kv, wv, h⟩ := h
  exact h.ok
theorem RefAt.inv {w : World} {r : Nat} {F : Nat → Prop} {D : Dsk} (h : RefAt w r F D) : D.inv := by
  obtain ⟨kv, wv, h⟩ := h
  exact h.inv
theorem RefIn.cells {w r F D kv wv} (h : RefIn w r F D kv wv) :
    w.cell? ⟨r, 0, none⟩ = some (.int .i64 D.size) ∧ w.cell? ⟨r, 1, none⟩ = some kv ∧ w.cell? ⟨r, 2, none⟩ = some wv ∧ w.cell? ⟨r, 3, none⟩ = some (.bool D.down) ∧ w.cell? ⟨r, 4, none⟩ = some (.int .i64 D.left) ∧ r < w.heap.size :=
  ⟨cell_of_row w r 0 _ _ _ h.self, cell_of_row w r 1 _ _ _ h.self, cell_of_row w r 2 _ _ _ h.self, cell_of_row w r 3 _ _ _ h.self, cell_of_row w r 4 _ _ _ h.self, lt_of_heap h.self⟩
theorem RefIn.free {w r F D kv wv} (h : RefIn w r F D kv wv) (o : Nat) : w.frozen? ⟨r, o, none⟩ = false := frozen_of_row w r o _ _ h.self
/-- one cell of the record turns -/
theorem RefIn.setDown {w r F D kv wv} (h : RefIn w r F D kv wv) (b : Bool) : RefIn (w.setCell ⟨r, 3, none⟩ (.bool b)) r F { D with down := b } kv wv :=
  ⟨by rw [hset_eq h.self]; rfl, ownsRow_set h.kept h.ner.1, ownsRow_set h.row h.ner.2.1, h.fr, h.fk, h.fw, h.ok, h.inv⟩
theorem RefIn.setLeft {w r F D kv wv} (h : RefIn w r F D kv wv) (n : Int) (h1 : -1 ≤ n) (h2 : n ≤ 9223372036854775807) : RefIn (w.setCell ⟨r, 4, none⟩ (.int .i64 n)) r F { D with left := n } kv wv :=
  ⟨by rw [hset_eq h.self]; rfl, ownsRow_set h.kept h.ner.1, ownsRow_set h.row h.ner.2.1, h.fr, h.fk, h.fw, ⟨h.ok.1, h.ok.2.1, h1, h2, h.ok.2.2.2.2⟩, h.inv⟩

theorem RefIn.setLeft2 {w r F D kv wv} (h : RefIn w r F D kv wv) (v : Value) : RefIn ((w.setCell ⟨r, 4, none⟩ v).setCell ⟨r, 4, none⟩ (.int .i64 (-1))) r F { D with left := -1 } kv wv :=
  ⟨by rw [hset_eq (hset_eq h.self)]; rfl, ownsRow_set (ownsRow_set h.kept h.ner.1) h.ner.1, ownsRow_set (ownsRow_set h.row h.ner.2.1) h.ner.2.1, h.fr, h.fk, h.fw, ⟨h.ok.1, h.ok.2.1, (by decide : (-1 : Int) ≤ -1), (by decide : (-1 : Int) ≤ 9223372036854775807), h.ok.2.2.2.2⟩, h.inv⟩

/-! change -/
theorem change_inv {D : Dsk} (h : D.inv) : D.change.inv := by
  unfold Dsk.change
  split
  · exact h
  · exact h
theorem rchange_any (r : Nat) (F : Nat → Prop) (D : Dsk) (w : World) (h : RefAt w r F D) (hd : D.down = false) :
    Calls Try.prog 60 #[.pointer (some ⟨r, 0, none⟩)] w fun e w' => e = .returned (.tuple #[]) ∧ RefAt w' r F D.change ∧ Chg F w w' := by
  obtain ⟨kv, wv, h⟩ := h
  obtain ⟨c0, c1, c2, c3, c4, c6⟩ := h.cells
  have hf3 := h.free 3
  have hf4 := h.free 4
  have hl0 := h.ok.2.2.1
  have hl1 := h.ok.2.2.2.1
  have HH := Lib.hid h
  clear h c0 c1 c2
  by_cases hl : 0 < D.left
  · by_cases he : D.left = 1
    · have e : D.change = { D with left := 0, down := true } := by unfold Dsk.change; rw [if_pos hl, he]; rfl
      have E := Lib.hid e
      have e1 : { ({ D with left := 0 } : Dsk) with down := true } = D.change := by rw [e]
      have E1 := Lib.hid e1
      clear e e1
      have hq : D.left - 1 = 0 := by omega
      go_enter Try.func60, Try.ntmps60
      go_wp2
      go_end0
      refine ⟨rfl, ⟨kv, wv, ?_⟩, ((Chg.refl F w).setCell (.inl HH.out.fr) _).setCell (.inl HH.out.fr) _⟩
      rw [← E1.out]
      exact (HH.out.setLeft 0 (by decide) (by decide)).setDown true
    · have e : D.change = { D with left := D.left - 1 } := by
        unfold Dsk.change; rw [if_pos hl, show (D.left - 1 == 0) = D.down from by rw [hd]; simp; omega]
      have E := Lib.hid e
      have hq : (D.left - 1 == 0) = false := by simp; omega
      clear e hd
      go_enter Try.func60, Try.ntmps60
      go_wp2
      go_end0
      refine ⟨rfl, ⟨kv, wv, ?_⟩, (Chg.refl F w).setCell (.inl HH.out.fr) _⟩
      rw [E.out]
      exact HH.out.setLeft _ (by omega) (by omega)
  · have e : D.change = D := by unfold Dsk.change; rw [if_neg hl]
    have E := Lib.hid e
    clear e hd
    go_enter Try.func60, Try.ntmps60
    go_wp2
    go_end0
    refine ⟨rfl, ⟨kv, wv, ?_⟩, Chg.refl F w⟩
    rw [E.out]
    exact HH.out

/-! Arm -/
theorem rarm_nil (n : Int) (w : World) : Calls Try.prog 42 #[.pointer none, .int .i64 n] w fun e w' => e = .returned (.tuple #[]) ∧ w = w' := by
  go_enter Try.func42, Try.ntmps42
  go_wp2
  refine bodyPost_ret (results_none rfl _ _ _) rfl ?_
  exact ⟨rfl, rfl⟩
theorem arm_inv {D : Dsk} (h : D.inv) (n : Int) : (D.arm n).inv := by
  unfold Dsk.arm
  split
  · exact h
  · exact h
theorem rarm_any (r : Nat) (F : Nat → Prop) (D : Dsk) (w : World) (n : Int) (hn : n ≤ 9223372036854775807) (h : RefAt w r F D) :
    Calls Try.prog 42 #[.pointer (some ⟨r, 0, none⟩), .int .i64 n] w fun e w' => e = .returned (.tuple #[]) ∧ RefAt w' r F (D.arm n) ∧ Chg F w w' := by
  obtain ⟨kv, wv, h⟩ := h
  obtain ⟨c0, c1, c2, c3, c4, c6⟩ := h.cells
  have hf3 := h.free 3
  have hf4 := h.free 4
  have HH := Lib.hid h
  clear h c0 c1 c2
  cases hd : D.down with
  | true =>
    rw [hd] at c3
    have e : D.arm n = D := by unfold Dsk.arm; rw [if_pos hd]
    have E := Lib.hid e
    clear e hd
    go_enter Try.func42, Try.ntmps42
    go_wp2
    refine bodyPost_ret (results_none rfl _ _ _) rfl ?_
    exact ⟨rfl, ⟨kv, wv, by rw [E.out]; exact HH.out⟩, Chg.refl F w⟩
  | false =>
    rw [hd] at c3
    by_cases h1 : n < 0
    · have e : D.arm n = { D with left := -1 } := by
        unfold Dsk.arm; rw [if_neg (by simp [hd])]
        by_cases h2 : n < -1
        · rw [if_pos h2, show (n == 0) = D.down from by rw [hd]; simp; omega]
        · rw [if_neg h2, show (n == 0) = D.down from by rw [hd]; simp; omega, show n = -1 by omega]
      have E := Lib.hid e
      have hq : (n == 0) = false := by simp; omega
      clear e hd
      go_enter Try.func42, Try.ntmps42
      go_wp2
      go_end0
      refine ⟨rfl, ⟨kv, wv, ?_⟩, ((Chg.refl F w).setCell (.inl HH.out.fr) _).setCell (.inl HH.out.fr) _⟩
      rw [E.out]
      exact HH.out.setLeft2 _
    · by_cases h2 : n = 0
      · subst h2
        have e : D.arm 0 = { D with left := 0, down := true } := by
          unfold Dsk.arm; rw [if_neg (by simp [hd])]; rfl
        have E := Lib.hid e
        clear e hd
        go_enter Try.func42, Try.ntmps42
        go_wp2
        go_end0
        refine ⟨rfl, ⟨kv, wv, ?_⟩, ((Chg.refl F w).setCell (.inl HH.out.fr) _).setCell (.inl HH.out.fr) _⟩
        rw [E.out]
        exact (HH.out.setLeft 0 (by decide) (by decide)).setDown true
      · have e : D.arm n = { D with left := n } := by
          unfold Dsk.arm; rw [if_neg (by simp [hd]), if_neg (by omega), show (n == 0) = D.down from by rw [hd]; simp; omega]
        have E := Lib.hid e
        have hq : (n == 0) = false := by simp; omega
        clear e hd
        go_enter Try.func42, Try.ntmps42
        go_wp2
        go_end0
        refine ⟨rfl, ⟨kv, wv, ?_⟩, (Chg.refl F w).setCell (.inl HH.out.fr) _⟩
        rw [E.out]
        exact HH.out.setLeft n (by omega) hn
end Go.Proofs.Ytihpobpkhhkejaa
