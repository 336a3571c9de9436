/-
  The log's record in memory, and what room, Used, Waiting and Append do. Conditions: a log over a disk stands at the address.
-/
import Derived.Test.YtihpobpkhhkejaaBRow
import Derived.Test.YtihpobpkhhkejaaD3A
set_option autoImplicit false
namespace Go.Proofs.Ytihpobpkhhkejaa
open Go Go.RowKit

structure Lg where
  cnt : Int
  len : Int
  st : List Int
  wait : Int
structure Lg.ok (L : Lg) : Prop where
  c0 : 0 ≤ L.cnt
  c1 : L.cnt < 18446744073709551616
  l0 : 0 ≤ L.len
  l1 : L.len ≤ L.st.length
  s1 : L.st.length ≤ 4194304
  by_ : Bytes L.st
  w0 : 0 ≤ L.wait
  w1 : 4 * L.wait ≤ L.st.length
structure LogIn (w : World) (l d : Nat) (F : Nat → Prop) (L : Lg) (sv : Value) : Prop where
  self : w.heap[l]? = some (.cells #[.pointer (some ⟨d, 0, none⟩), .int .u64 L.cnt, .int .u64 L.len, sv, .int .i64 L.wait] 103 (0, 0))
  row : Byts w 0 sv L.st
  fl : F l
  fs : ∀ g, sv.ownBlock = some g → F g
  ok : L.ok
def LogAt (w : World) (l d : Nat) (F : Nat → Prop) (L : Lg) : Prop := ∃ sv, LogIn w l d F L sv
section
variable {w w' : World} {l d : Nat} {F G : Nat → Prop} {L : Lg} {sv : Value}
theorem LogIn.ne (h : LogIn w l d F L sv) {g : Nat} (hg : sv.ownBlock = some g) : g ≠ l := by
  intro e
  subst e
  obtain ⟨cur, hc⟩ := ownsRow_heap h.row.row hg
  have := h.self
  rw [hc] at this
  simp at this
theorem LogIn.chg (h : LogIn w l d F L sv) (x : Chg G w w') (hd : ∀ k, F k → ¬ G k) : LogIn w' l d F L sv :=
  ⟨x.heap h.self (hd _ h.fl), h.row.chg x (fun g hg => hd g (h.fs g hg)), h.fl, h.fs, h.ok⟩
theorem LogAt.chg (h : LogAt w l d F L) (x : Chg G w w') (hd : ∀ k, F k → ¬ G k) : LogAt w' l d F L := by
  obtain ⟨sv, h⟩ := h
  exact ⟨sv, h.chg x hd⟩
theorem LogAt.quiet (h : LogAt w l d F L) (x : Chg (fun _ => False) w w') : LogAt w' l d F L := h.chg x (fun _ _ h => h)
theorem LogIn.mono (h : LogIn w l d F L sv) (hG : ∀ k, F k → k < w.heap.size → G k) : LogIn w l d G L sv :=
  ⟨h.self, h.row, hG _ h.fl (lt_of_heap h.self), fun g hg => hG _ (h.fs g hg) (h.row.lt hg), h.ok⟩
theorem LogAt.mono (h : LogAt w l d F L) (hG : ∀ k, F k → k < w.heap.size → G k) : LogAt w l d G L := by
  obtain ⟨sv, h⟩ := h
  exact ⟨sv, h.mono hG⟩
theorem LogAt.ok (h : LogAt w l d F L) : L.ok := by
  obtain ⟨sv, h⟩ := h
  exact h.ok
theorem LogIn.cells (h : LogIn w l d F L sv) :
    w.cell? ⟨l, 0, none⟩ = some (.pointer (some ⟨d, 0, none⟩)) ∧ w.cell? ⟨l, 1, none⟩ = some (.int .u64 L.cnt) ∧ w.cell? ⟨l, 2, none⟩ = some (.int .u64 L.len) ∧ w.cell? ⟨l, 3, none⟩ = some sv ∧
    w.cell? ⟨l, 4, none⟩ = some (.int .i64 L.wait) ∧ l < w.heap.size :=
  ⟨cell_of_row w l 0 _ _ _ h.self, cell_of_row w l 1 _ _ _ h.self, cell_of_row w l 2 _ _ _ h.self, cell_of_row w l 3 _ _ _ h.self, cell_of_row w l 4 _ _ _ h.self, lt_of_heap h.self⟩
theorem LogIn.free (h : LogIn w l d F L sv) (o : Nat) : w.frozen? ⟨l, o, none⟩ = false := frozen_of_row w l o _ _ h.self
end
/-- a log over a disk -/
structure LD (w : World) (l d : Nat) (A F : Nat → Prop) (D : Dsk) (L : Lg) : Prop where
  disk : DiskAt w d A D
  log : LogAt w l d F L
  apart : ∀ k, A k → ¬ F k
theorem LD.quiet {w w' : World} {l d : Nat} {A F : Nat → Prop} {D : Dsk} {L : Lg} (h : LD w l d A F D L) (x : Chg (fun _ => False) w w') : LD w' l d A F D L :=
  ⟨h.disk.chg x (fun _ _ h => h), h.log.quiet x, h.apart⟩
theorem used_nil (w : World) : Calls Try.prog 33 #[.pointer none] w fun e w' => e = .returned (.int .i64 0) ∧ w = w' := by
  go_enter Try.func33, Try.ntmps33
  go_wp2
  go_ret
  exact ⟨rfl, rfl⟩
theorem waitingL_nil (w : World) : Calls Try.prog 34 #[.pointer none] w fun e w' => e = .returned (.int .i64 0) ∧ w = w' := by
  go_enter Try.func34, Try.ntmps34
  go_wp2
  go_ret
  exact ⟨rfl, rfl⟩
theorem used_any (l d : Nat) (F : Nat → Prop) (L : Lg) (w : World) (h : LogAt w l d F L) : Calls Try.prog 33 #[.pointer (some ⟨l, 0, none⟩)] w fun e w' => e = .returned (.int .i64 L.st.length) ∧ w = w' := by
  obtain ⟨sv, h⟩ := h
  obtain ⟨ao, cap, rfl, _⟩ := h.row.form
  obtain ⟨c0, c1, c2, c3, c4, c5⟩ := h.cells
  clear h
  go_enter Try.func33, Try.ntmps33
  go_wp2
  go_ret
  exact ⟨rfl, rfl⟩
theorem waitingL_any (l d : Nat) (F : Nat → Prop) (L : Lg) (w : World) (h : LogAt w l d F L) : Calls Try.prog 34 #[.pointer (some ⟨l, 0, none⟩)] w fun e w' => e = .returned (.int .i64 L.wait) ∧ w = w' := by
  obtain ⟨sv, h⟩ := h
  obtain ⟨c0, c1, c2, c3, c4, c5⟩ := h.cells
  clear h
  go_enter Try.func34, Try.ntmps34
  go_wp2
  go_ret
  exact ⟨rfl, rfl⟩
theorem room_cells (l d : Nat) (A : Nat → Prop) (D : Dsk) (w : World) (hl : w.cell? ⟨l, 0, none⟩ = some (.pointer (some ⟨d, 0, none⟩))) (h : DiskAt w d A D) :
    Calls Try.prog 53 #[.pointer (some ⟨l, 0, none⟩)] w fun e w' => e = .returned (.int .i64 ((D.size - 2) * 64)) ∧ w = w' := by
  have h0 := h.ok.1
  have h1 := h.ok.2.1
  have HH := Lib.hid h
  clear h
  go_enter Try.func53, Try.ntmps53
  go_wp2_with fail
  refine (size_any d A D w HH.out).mono ?_
  rintro e w' ⟨rfl, rfl⟩
  go_wp2
  go_ret
  exact ⟨rfl, rfl⟩
end Go.Proofs.Ytihpobpkhhkejaa
