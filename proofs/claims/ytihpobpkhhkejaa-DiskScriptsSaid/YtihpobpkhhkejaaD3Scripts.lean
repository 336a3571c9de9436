/-
  The walk of DiskScripts: it returns true, for every script. Conditions: the script is read as it came in, it has at most 2900000000000 calls.
-/
import Derived.Test.YtihpobpkhhkejaaD3Scr
import Derived.Test.YtihpobpkhhkejaaLexT
import Derived.Deep.DeepCutAuto
set_option autoImplicit false
namespace Go.Proofs.Ytihpobpkhhkejaa
open Go Go.RowKit

theorem lt_of_cell {w : World} {b o : Nat} {v : Value} (h : w.cell? ⟨b, o, none⟩ = some v) : b < w.heap.size := World.block_lt_of_cell? w _ h
theorem store3 {w : World} {g : Nat} {t : TypeId} {old : Array Value} (h : w.heap[g]? = some (.cells old t (0, 0))) (hs : old.size = 3) (a b c : Value) :
    (w.setCells g 0 [a, b, c]).heap[g]? = some (.cells #[a, b, c] t (0, 0)) ∧ Chg (fun k => k = g) w (w.setCells g 0 [a, b, c]) ∧ (w.setCells g 0 [a, b, c]).heap.size = w.heap.size := by
  have e : old = ([] ++ old.toList ++ []).toArray := by simp
  rw [e] at h
  have := heap_setCells g t (0, 0) [] [a, b, c] old.toList [] w h (by simpa using hs)
  refine ⟨by simpa using this, (Chg.refl (fun k => k = g) w).setCells (r := g) (.inl rfl) _, ?_⟩
  simp [World.setCells]
theorem third_of (O : Int) : ∃ m : Nat, wrap64 ((IntKind.u64.wrap O).tmod 3) = m ∧ m < 3 := by
  have h : IntKind.u64.wrap O = O % 18446744073709551616 := by simp [IntKind.wrap, IntKind.bits, IntKind.signed]
  have h2 : (IntKind.u64.wrap O).tmod 3 = (O % 18446744073709551616) % 3 := by rw [h, Int.tmod_eq_emod_of_nonneg (by omega)]
  rw [h2]
  refine ⟨((O % 18446744073709551616) % 3).toNat, ?_, by omega⟩
  unfold wrap64
  omega
theorem fin3 (w1 wx : World) (hg r0 r1 : Nat) (s0 s1 : Int) (F0 F1 : Nat → Prop) (old : Array Value) (h : wx.heap[hg]? = some (.cells old 49 (0, 0))) (hs : old.size = 3) (d0 : DiskAt wx r0 F0 (Dsk.new s0)) (d1 : DiskAt wx r1 F1 (Dsk.new s1))
    (hd : ∀ k, F0 k → ¬ F1 k) (hF : ∀ k, F0 k ∨ F1 k → w1.heap.size ≤ k ∧ k < wx.heap.size ∧ k ≠ hg) (hb1 : w1.heap.size ≤ hg) (x : Chg (fun _ => False) w1 wx) :
    ∃ hb d0 d1 F0 F1, Value.pointer (some ⟨hg, 0, none⟩) = .pointer (some ⟨hb, 0, none⟩) ∧ (wx.setCells hg 0 [.pointer (some ⟨r0, 0, none⟩), .pointer (some ⟨r1, 0, none⟩), .pointer none]).heap[hb]? = some (.cells #[.pointer (some ⟨d0, 0, none⟩), .pointer (some ⟨d1, 0, none⟩), .pointer none] 49 (0, 0)) ∧ DiskAt (wx.setCells hg 0 [.pointer (some ⟨r0, 0, none⟩), .pointer (some ⟨r1, 0, none⟩), .pointer none]) d0 F0 (Dsk.new s0) ∧ DiskAt (wx.setCells hg 0 [.pointer (some ⟨r0, 0, none⟩), .pointer (some ⟨r1, 0, none⟩), .pointer none]) d1 F1 (Dsk.new s1) ∧ (∀ k, F0 k → ¬ F1 k) ∧ (∀ k, F0 k ∨ F1 k → w1.heap.size ≤ k ∧ k < (wx.setCells hg 0 [.pointer (some ⟨r0, 0, none⟩), .pointer (some ⟨r1, 0, none⟩), .pointer none]).heap.size ∧ k ≠ hb) ∧ w1.heap.size ≤ hb ∧ Chg (fun _ => False) w1 (wx.setCells hg 0 [.pointer (some ⟨r0, 0, none⟩), .pointer (some ⟨r1, 0, none⟩), .pointer none]) := by
  obtain ⟨h1, h2, h3⟩ := store3 h hs (.pointer (some ⟨r0, 0, none⟩)) (.pointer (some ⟨r1, 0, none⟩)) (.pointer none)
  exact ⟨hg, r0, r1, F0, F1, rfl, h1, d0.chg h2 (fun k hk e => (hF k (.inl hk)).2.2 e), d1.chg h2 (fun k hk e => (hF k (.inr hk)).2.2 e), hd, fun k hk => by rw [h3]; exact hF k hk, hb1, x.trans h2 (fun k hk => .inr (by omega))⟩
theorem fin3a (w1 w2 w3 : World) (r0 r1 : Nat) (s0 s1 : Int) (d0 : DiskAt w2 r0 (Ext (fun _ => False) w1.drew w2) (Dsk.new s0)) (x0 : Chg (fun _ => False) w1.drew w2) (d1 : DiskAt w3 r1 (Ext (fun _ => False) w2 w3) (Dsk.new s1)) (x1 : Chg (fun _ => False) w2 w3) :
    ∃ hb d0 d1 F0 F1, Value.pointer (some ⟨w3.heap.size, 0, none⟩) = .pointer (some ⟨hb, 0, none⟩) ∧ ((w3.alloc (.cells #[.pointer none, .pointer none, .pointer none] 49)).setCells w3.heap.size 0 [.pointer (some ⟨r0, 0, none⟩), .pointer (some ⟨r1, 0, none⟩), .pointer none]).heap[hb]? = some (.cells #[.pointer (some ⟨d0, 0, none⟩), .pointer (some ⟨d1, 0, none⟩), .pointer none] 49 (0, 0)) ∧ DiskAt ((w3.alloc (.cells #[.pointer none, .pointer none, .pointer none] 49)).setCells w3.heap.size 0 [.pointer (some ⟨r0, 0, none⟩), .pointer (some ⟨r1, 0, none⟩), .pointer none]) d0 F0 (Dsk.new s0) ∧ DiskAt ((w3.alloc (.cells #[.pointer none, .pointer none, .pointer none] 49)).setCells w3.heap.size 0 [.pointer (some ⟨r0, 0, none⟩), .pointer (some ⟨r1, 0, none⟩), .pointer none]) d1 F1 (Dsk.new s1) ∧ (∀ k, F0 k → ¬ F1 k) ∧ (∀ k, F0 k ∨ F1 k → w1.heap.size ≤ k ∧ k < ((w3.alloc (.cells #[.pointer none, .pointer none, .pointer none] 49)).setCells w3.heap.size 0 [.pointer (some ⟨r0, 0, none⟩), .pointer (some ⟨r1, 0, none⟩), .pointer none]).heap.size ∧ k ≠ hb) ∧ w1.heap.size ≤ hb ∧ Chg (fun _ => False) w1 ((w3.alloc (.cells #[.pointer none, .pointer none, .pointer none] 49)).setCells w3.heap.size 0 [.pointer (some ⟨r0, 0, none⟩), .pointer (some ⟨r1, 0, none⟩), .pointer none]) := by
  have z0 := x0.size
  have z1 := x1.size
  have e : w1.drew.heap.size = w1.heap.size := rfl
  have xa : Chg (fun _ => False) w3 (w3.alloc (.cells #[.pointer none, .pointer none, .pointer none] 49)) := (Chg.refl _ w3).alloc _
  refine fin3 w1 _ w3.heap.size r0 r1 s0 s1 (Ext (fun _ => False) w1.drew w2) (Ext (fun _ => False) w2 w3) _ hal_new rfl ((d0.chg x1 (fun _ _ h => h)).chg xa (fun _ _ h => h)) (d1.chg xa (fun _ _ h => h)) (fun k hk hk2 => ?_) (fun k hk => ?_) (by omega) (((Chg.refl _ w1).drew.trans x0 (fun _ h => h.elim)).trans x1 (fun _ h => h.elim) |>.alloc _)
  · rcases hk with hk | hk
    · exact hk
    · rcases hk2 with hk2 | hk2
      · exact hk2
      · omega
  · simp only [World.alloc, Array.size_push]
    rcases hk with (hk | hk) | (hk | hk)
    · exact hk.elim
    · omega
    · exact hk.elim
    · omega
theorem fin3b (w1 w2 w3 : World) (r0 r1 : Nat) (s0 s1 : Int) (d0 : DiskAt w2 r0 (Ext (fun _ => False) w1.drew w2) (Dsk.new s0)) (x0 : Chg (fun _ => False) w1.drew w2) (d1 : DiskAt w3 r1 (Ext (fun _ => False) (w2.alloc (.cells #[.pointer none, .pointer none, .pointer none] 49)) w3) (Dsk.new s1)) (x1 : Chg (fun _ => False) (w2.alloc (.cells #[.pointer none, .pointer none, .pointer none] 49)) w3) :
    ∃ hb d0 d1 F0 F1, Value.pointer (some ⟨w2.heap.size, 0, none⟩) = .pointer (some ⟨hb, 0, none⟩) ∧ (w3.setCells w2.heap.size 0 [.pointer (some ⟨r0, 0, none⟩), .pointer (some ⟨r1, 0, none⟩), .pointer none]).heap[hb]? = some (.cells #[.pointer (some ⟨d0, 0, none⟩), .pointer (some ⟨d1, 0, none⟩), .pointer none] 49 (0, 0)) ∧ DiskAt (w3.setCells w2.heap.size 0 [.pointer (some ⟨r0, 0, none⟩), .pointer (some ⟨r1, 0, none⟩), .pointer none]) d0 F0 (Dsk.new s0) ∧ DiskAt (w3.setCells w2.heap.size 0 [.pointer (some ⟨r0, 0, none⟩), .pointer (some ⟨r1, 0, none⟩), .pointer none]) d1 F1 (Dsk.new s1) ∧ (∀ k, F0 k → ¬ F1 k) ∧ (∀ k, F0 k ∨ F1 k → w1.heap.size ≤ k ∧ k < (w3.setCells w2.heap.size 0 [.pointer (some ⟨r0, 0, none⟩), .pointer (some ⟨r1, 0, none⟩), .pointer none]).heap.size ∧ k ≠ hb) ∧ w1.heap.size ≤ hb ∧ Chg (fun _ => False) w1 (w3.setCells w2.heap.size 0 [.pointer (some ⟨r0, 0, none⟩), .pointer (some ⟨r1, 0, none⟩), .pointer none]) := by
  have z0 := x0.size
  have z1 := x1.size
  have e : w1.drew.heap.size = w1.heap.size := rfl
  have e2 : (w2.alloc (.cells #[.pointer none, .pointer none, .pointer none] 49)).heap.size = w2.heap.size + 1 := by simp
  have xa : Chg (fun _ => False) w2 (w2.alloc (.cells #[.pointer none, .pointer none, .pointer none] 49)) := (Chg.refl _ w2).alloc _
  refine fin3 w1 _ w2.heap.size r0 r1 s0 s1 (Ext (fun _ => False) w1.drew w2) (Ext (fun _ => False) (w2.alloc (.cells #[.pointer none, .pointer none, .pointer none] 49)) w3) _ (x1.heap hal_new (fun h => h)) rfl ((d0.chg xa (fun _ _ h => h)).chg x1 (fun _ _ h => h)) d1 (fun k hk hk2 => ?_) (fun k hk => ?_) (by omega) ((((Chg.refl _ w1).drew.trans x0 (fun _ h => h.elim)).alloc _).trans x1 (fun _ h => h.elim))
  · rcases hk with hk | hk
    · exact hk
    · rcases hk2 with hk2 | hk2
      · exact hk2
      · omega
  · rcases hk with (hk | hk) | (hk | hk)
    · exact hk.elim
    · omega
    · exact hk.elim
    · omega
theorem fin3c (w1 w2 w3 : World) (r0 r1 : Nat) (s0 s1 : Int) (d0 : DiskAt w2 r0 (Ext (fun _ => False) (w1.drew.alloc (.cells #[.pointer none, .pointer none, .pointer none] 49)) w2) (Dsk.new s0)) (x0 : Chg (fun _ => False) (w1.drew.alloc (.cells #[.pointer none, .pointer none, .pointer none] 49)) w2) (d1 : DiskAt w3 r1 (Ext (fun _ => False) w2 w3) (Dsk.new s1)) (x1 : Chg (fun _ => False) w2 w3) :
    ∃ hb d0 d1 F0 F1, Value.pointer (some ⟨w1.heap.size, 0, none⟩) = .pointer (some ⟨hb, 0, none⟩) ∧ (w3.setCells w1.heap.size 0 [.pointer (some ⟨r0, 0, none⟩), .pointer (some ⟨r1, 0, none⟩), .pointer none]).heap[hb]? = some (.cells #[.pointer (some ⟨d0, 0, none⟩), .pointer (some ⟨d1, 0, none⟩), .pointer none] 49 (0, 0)) ∧ DiskAt (w3.setCells w1.heap.size 0 [.pointer (some ⟨r0, 0, none⟩), .pointer (some ⟨r1, 0, none⟩), .pointer none]) d0 F0 (Dsk.new s0) ∧ DiskAt (w3.setCells w1.heap.size 0 [.pointer (some ⟨r0, 0, none⟩), .pointer (some ⟨r1, 0, none⟩), .pointer none]) d1 F1 (Dsk.new s1) ∧ (∀ k, F0 k → ¬ F1 k) ∧ (∀ k, F0 k ∨ F1 k → w1.heap.size ≤ k ∧ k < (w3.setCells w1.heap.size 0 [.pointer (some ⟨r0, 0, none⟩), .pointer (some ⟨r1, 0, none⟩), .pointer none]).heap.size ∧ k ≠ hb) ∧ w1.heap.size ≤ hb ∧ Chg (fun _ => False) w1 (w3.setCells w1.heap.size 0 [.pointer (some ⟨r0, 0, none⟩), .pointer (some ⟨r1, 0, none⟩), .pointer none]) := by
  have z0 := x0.size
  have z1 := x1.size
  have e : w1.drew.heap.size = w1.heap.size := rfl
  have e2 : (w1.drew.alloc (.cells #[.pointer none, .pointer none, .pointer none] 49)).heap.size = w1.heap.size + 1 := by simp
  refine fin3 w1 _ w1.heap.size r0 r1 s0 s1 (Ext (fun _ => False) (w1.drew.alloc (.cells #[.pointer none, .pointer none, .pointer none] 49)) w2) (Ext (fun _ => False) w2 w3) _ (x1.heap (x0.heap (hal_new (w := w1.drew)) (fun h => h)) (fun h => h)) rfl (d0.chg x1 (fun _ _ h => h)) d1 (fun k hk hk2 => ?_) (fun k hk => ?_) (by omega) ((((Chg.refl _ w1).drew.alloc _).trans x0 (fun _ h => h.elim)).trans x1 (fun _ h => h.elim))
  · rcases hk with hk | hk
    · exact hk
    · rcases hk2 with hk2 | hk2
      · exact hk2
      · omega
  · rcases hk with (hk | hk) | (hk | hk)
    · exact hk.elim
    · omega
    · exact hk.elim
    · omega
theorem rfin3 (w1 wx : World) (hg r0 r1 : Nat) (s0 s1 : Int) (F0 F1 : Nat → Prop) (old : Array Value) (h : wx.heap[hg]? = some (.cells old 52 (0, 0))) (hs : old.size = 3) (d0 : RefAt wx r0 F0 (Dsk.new s0)) (d1 : RefAt wx r1 F1 (Dsk.new s1))
    (hd : ∀ k, F0 k → ¬ F1 k) (hF : ∀ k, F0 k ∨ F1 k → w1.heap.size ≤ k ∧ k < wx.heap.size ∧ k ≠ hg) (hb1 : w1.heap.size ≤ hg) (x : Chg (fun _ => False) w1 wx) :
    ∃ hb d0 d1 F0 F1, Value.pointer (some ⟨hg, 0, none⟩) = .pointer (some ⟨hb, 0, none⟩) ∧ (wx.setCells hg 0 [.pointer (some ⟨r0, 0, none⟩), .pointer (some ⟨r1, 0, none⟩), .pointer none]).heap[hb]? = some (.cells #[.pointer (some ⟨d0, 0, none⟩), .pointer (some ⟨d1, 0, none⟩), .pointer none] 52 (0, 0)) ∧ RefAt (wx.setCells hg 0 [.pointer (some ⟨r0, 0, none⟩), .pointer (some ⟨r1, 0, none⟩), .pointer none]) d0 F0 (Dsk.new s0) ∧ RefAt (wx.setCells hg 0 [.pointer (some ⟨r0, 0, none⟩), .pointer (some ⟨r1, 0, none⟩), .pointer none]) d1 F1 (Dsk.new s1) ∧ (∀ k, F0 k → ¬ F1 k) ∧ (∀ k, F0 k ∨ F1 k → w1.heap.size ≤ k ∧ k < (wx.setCells hg 0 [.pointer (some ⟨r0, 0, none⟩), .pointer (some ⟨r1, 0, none⟩), .pointer none]).heap.size ∧ k ≠ hb) ∧ w1.heap.size ≤ hb ∧ Chg (fun _ => False) w1 (wx.setCells hg 0 [.pointer (some ⟨r0, 0, none⟩), .pointer (some ⟨r1, 0, none⟩), .pointer none]) := by
  obtain ⟨h1, h2, h3⟩ := store3 h hs (.pointer (some ⟨r0, 0, none⟩)) (.pointer (some ⟨r1, 0, none⟩)) (.pointer none)
  exact ⟨hg, r0, r1, F0, F1, rfl, h1, d0.chg h2 (fun k hk e => (hF k (.inl hk)).2.2 e), d1.chg h2 (fun k hk e => (hF k (.inr hk)).2.2 e), hd, fun k hk => by rw [h3]; exact hF k hk, hb1, x.trans h2 (fun k hk => .inr (by omega))⟩
theorem rfin3a (w1 w2 w3 : World) (r0 r1 : Nat) (s0 s1 : Int) (d0 : RefAt w2 r0 (Ext (fun _ => False) w1.drew w2) (Dsk.new s0)) (x0 : Chg (fun _ => False) w1.drew w2) (d1 : RefAt w3 r1 (Ext (fun _ => False) w2 w3) (Dsk.new s1)) (x1 : Chg (fun _ => False) w2 w3) :
    ∃ hb d0 d1 F0 F1, Value.pointer (some ⟨w3.heap.size, 0, none⟩) = .pointer (some ⟨hb, 0, none⟩) ∧ ((w3.alloc (.cells #[.pointer none, .pointer none, .pointer none] 52)).setCells w3.heap.size 0 [.pointer (some ⟨r0, 0, none⟩), .pointer (some ⟨r1, 0, none⟩), .pointer none]).heap[hb]? = some (.cells #[.pointer (some ⟨d0, 0, none⟩), .pointer (some ⟨d1, 0, none⟩), .pointer none] 52 (0, 0)) ∧ RefAt ((w3.alloc (.cells #[.pointer none, .pointer none, .pointer none] 52)).setCells w3.heap.size 0 [.pointer (some ⟨r0, 0, none⟩), .pointer (some ⟨r1, 0, none⟩), .pointer none]) d0 F0 (Dsk.new s0) ∧ RefAt ((w3.alloc (.cells #[.pointer none, .pointer none, .pointer none] 52)).setCells w3.heap.size 0 [.pointer (some ⟨r0, 0, none⟩), .pointer (some ⟨r1, 0, none⟩), .pointer none]) d1 F1 (Dsk.new s1) ∧ (∀ k, F0 k → ¬ F1 k) ∧ (∀ k, F0 k ∨ F1 k → w1.heap.size ≤ k ∧ k < ((w3.alloc (.cells #[.pointer none, .pointer none, .pointer none] 52)).setCells w3.heap.size 0 [.pointer (some ⟨r0, 0, none⟩), .pointer (some ⟨r1, 0, none⟩), .pointer none]).heap.size ∧ k ≠ hb) ∧ w1.heap.size ≤ hb ∧ Chg (fun _ => False) w1 ((w3.alloc (.cells #[.pointer none, .pointer none, .pointer none] 52)).setCells w3.heap.size 0 [.pointer (some ⟨r0, 0, none⟩), .pointer (some ⟨r1, 0, none⟩), .pointer none]) := by
  have z0 := x0.size
  have z1 := x1.size
  have e : w1.drew.heap.size = w1.heap.size := rfl
  have xa : Chg (fun _ => False) w3 (w3.alloc (.cells #[.pointer none, .pointer none, .pointer none] 52)) := (Chg.refl _ w3).alloc _
  refine rfin3 w1 _ w3.heap.size r0 r1 s0 s1 (Ext (fun _ => False) w1.drew w2) (Ext (fun _ => False) w2 w3) _ hal_new rfl ((d0.chg x1 (fun _ _ h => h)).chg xa (fun _ _ h => h)) (d1.chg xa (fun _ _ h => h)) (fun k hk hk2 => ?_) (fun k hk => ?_) (by omega) (((Chg.refl _ w1).drew.trans x0 (fun _ h => h.elim)).trans x1 (fun _ h => h.elim) |>.alloc _)
  · rcases hk with hk | hk
    · exact hk
    · rcases hk2 with hk2 | hk2
      · exact hk2
      · omega
  · simp only [World.alloc, Array.size_push]
    rcases hk with (hk | hk) | (hk | hk)
    · exact hk.elim
    · omega
    · exact hk.elim
    · omega
theorem rfin3b (w1 w2 w3 : World) (r0 r1 : Nat) (s0 s1 : Int) (d0 : RefAt w2 r0 (Ext (fun _ => False) w1.drew w2) (Dsk.new s0)) (x0 : Chg (fun _ => False) w1.drew w2) (d1 : RefAt w3 r1 (Ext (fun _ => False) (w2.alloc (.cells #[.pointer none, .pointer none, .pointer none] 52)) w3) (Dsk.new s1)) (x1 : Chg (fun _ => False) (w2.alloc (.cells #[.pointer none, .pointer none, .pointer none] 52)) w3) :
    ∃ hb d0 d1 F0 F1, Value.pointer (some ⟨w2.heap.size, 0, none⟩) = .pointer (some ⟨hb, 0, none⟩) ∧ (w3.setCells w2.heap.size 0 [.pointer (some ⟨r0, 0, none⟩), .pointer (some ⟨r1, 0, none⟩), .pointer none]).heap[hb]? = some (.cells #[.pointer (some ⟨d0, 0, none⟩), .pointer (some ⟨d1, 0, none⟩), .pointer none] 52 (0, 0)) ∧ RefAt (w3.setCells w2.heap.size 0 [.pointer (some ⟨r0, 0, none⟩), .pointer (some ⟨r1, 0, none⟩), .pointer none]) d0 F0 (Dsk.new s0) ∧ RefAt (w3.setCells w2.heap.size 0 [.pointer (some ⟨r0, 0, none⟩), .pointer (some ⟨r1, 0, none⟩), .pointer none]) d1 F1 (Dsk.new s1) ∧ (∀ k, F0 k → ¬ F1 k) ∧ (∀ k, F0 k ∨ F1 k → w1.heap.size ≤ k ∧ k < (w3.setCells w2.heap.size 0 [.pointer (some ⟨r0, 0, none⟩), .pointer (some ⟨r1, 0, none⟩), .pointer none]).heap.size ∧ k ≠ hb) ∧ w1.heap.size ≤ hb ∧ Chg (fun _ => False) w1 (w3.setCells w2.heap.size 0 [.pointer (some ⟨r0, 0, none⟩), .pointer (some ⟨r1, 0, none⟩), .pointer none]) := by
  have z0 := x0.size
  have z1 := x1.size
  have e : w1.drew.heap.size = w1.heap.size := rfl
  have e2 : (w2.alloc (.cells #[.pointer none, .pointer none, .pointer none] 52)).heap.size = w2.heap.size + 1 := by simp
  have xa : Chg (fun _ => False) w2 (w2.alloc (.cells #[.pointer none, .pointer none, .pointer none] 52)) := (Chg.refl _ w2).alloc _
  refine rfin3 w1 _ w2.heap.size r0 r1 s0 s1 (Ext (fun _ => False) w1.drew w2) (Ext (fun _ => False) (w2.alloc (.cells #[.pointer none, .pointer none, .pointer none] 52)) w3) _ (x1.heap hal_new (fun h => h)) rfl ((d0.chg xa (fun _ _ h => h)).chg x1 (fun _ _ h => h)) d1 (fun k hk hk2 => ?_) (fun k hk => ?_) (by omega) ((((Chg.refl _ w1).drew.trans x0 (fun _ h => h.elim)).alloc _).trans x1 (fun _ h => h.elim))
  · rcases hk with hk | hk
    · exact hk
    · rcases hk2 with hk2 | hk2
      · exact hk2
      · omega
  · rcases hk with (hk | hk) | (hk | hk)
    · exact hk.elim
    · omega
    · exact hk.elim
    · omega
theorem rfin3c (w1 w2 w3 : World) (r0 r1 : Nat) (s0 s1 : Int) (d0 : RefAt w2 r0 (Ext (fun _ => False) (w1.drew.alloc (.cells #[.pointer none, .pointer none, .pointer none] 52)) w2) (Dsk.new s0)) (x0 : Chg (fun _ => False) (w1.drew.alloc (.cells #[.pointer none, .pointer none, .pointer none] 52)) w2) (d1 : RefAt w3 r1 (Ext (fun _ => False) w2 w3) (Dsk.new s1)) (x1 : Chg (fun _ => False) w2 w3) :
    ∃ hb d0 d1 F0 F1, Value.pointer (some ⟨w1.heap.size, 0, none⟩) = .pointer (some ⟨hb, 0, none⟩) ∧ (w3.setCells w1.heap.size 0 [.pointer (some ⟨r0, 0, none⟩), .pointer (some ⟨r1, 0, none⟩), .pointer none]).heap[hb]? = some (.cells #[.pointer (some ⟨d0, 0, none⟩), .pointer (some ⟨d1, 0, none⟩), .pointer none] 52 (0, 0)) ∧ RefAt (w3.setCells w1.heap.size 0 [.pointer (some ⟨r0, 0, none⟩), .pointer (some ⟨r1, 0, none⟩), .pointer none]) d0 F0 (Dsk.new s0) ∧ RefAt (w3.setCells w1.heap.size 0 [.pointer (some ⟨r0, 0, none⟩), .pointer (some ⟨r1, 0, none⟩), .pointer none]) d1 F1 (Dsk.new s1) ∧ (∀ k, F0 k → ¬ F1 k) ∧ (∀ k, F0 k ∨ F1 k → w1.heap.size ≤ k ∧ k < (w3.setCells w1.heap.size 0 [.pointer (some ⟨r0, 0, none⟩), .pointer (some ⟨r1, 0, none⟩), .pointer none]).heap.size ∧ k ≠ hb) ∧ w1.heap.size ≤ hb ∧ Chg (fun _ => False) w1 (w3.setCells w1.heap.size 0 [.pointer (some ⟨r0, 0, none⟩), .pointer (some ⟨r1, 0, none⟩), .pointer none]) := by
  have z0 := x0.size
  have z1 := x1.size
  have e : w1.drew.heap.size = w1.heap.size := rfl
  have e2 : (w1.drew.alloc (.cells #[.pointer none, .pointer none, .pointer none] 52)).heap.size = w1.heap.size + 1 := by simp
  refine rfin3 w1 _ w1.heap.size r0 r1 s0 s1 (Ext (fun _ => False) (w1.drew.alloc (.cells #[.pointer none, .pointer none, .pointer none] 52)) w2) (Ext (fun _ => False) w2 w3) _ (x1.heap (x0.heap (hal_new (w := w1.drew)) (fun h => h)) (fun h => h)) rfl (d0.chg x1 (fun _ _ h => h)) d1 (fun k hk hk2 => ?_) (fun k hk => ?_) (by omega) ((((Chg.refl _ w1).drew.alloc _).trans x0 (fun _ h => h.elim)).trans x1 (fun _ h => h.elim))
  · rcases hk with hk | hk
    · exact hk
    · rcases hk2 with hk2 | hk2
      · exact hk2
      · omega
  · rcases hk with (hk | hk) | (hk | hk)
    · exact hk.elim
    · omega
    · exact hk.elim
    · omega
set_option maxRecDepth 100000 in
set_option maxHeartbeats 16000000 in
theorem scripts_walk (s0 s1 : Int) (ao : Option Addr) (len cap : Nat) (K On N S : Nat → Int) (ka : Nat → Option Addr) (kl kc : Nat → Nat) (ks : Nat → List Bool) (w : World) (hlen : len ≤ 2900000000000)
    (hp : SlRd w ao len 5 (fun i j => if j = 0 then .int .i64 (K i) else if j = 1 then .int .i64 (On i) else if j = 2 then .int .i64 (N i) else if j = 3 then .int .u8 (S i) else .slice (ka i) (kl i) (kc i)))
    (hb : ∀ i, i < len → BoolsAt w (fun x => w.heap.size ≤ x) (.slice (ka i) (kl i) (kc i)) (ks i)) (hr : ∀ i, i < len → -9223372036854775808 ≤ On i ∧ On i ≤ 9223372036854775807 ∧ N i ≤ 9223372036854775807) :
    Calls Try.prog 7 #[.agg #[.int .i64 s0, .int .i64 s1], .slice ao len cap] w fun e w' => e = .returned (.bool true) ∧ Below w.heap.size w w' := by
  have HP := Lib.hid hp; have HB := Lib.hid hb; have HR := Lib.hid hr
  clear hp hb hr
  go_enter Try.func7, Try.ntmps7
  go_wp2_with (go_at_call 14; refine (awake3 _).mono ?_; rintro e w1 ⟨rfl, x1⟩)
  have X1 := Lib.hid (((Chg.refl (fun _ => False) w).alloc (.cells #[.int .i64 s0, .int .i64 s1] 47)).trans x1 (fun _ h => h.elim))
  have BB := Lib.hid (x1.heap (hal_new (w := w) (o := .cells #[.int .i64 s0, .int .i64 s1] 47)) (fun h => h))
  have z1 : w.heap.size + 1 ≤ w1.heap.size := by have := x1.size; simpa using this
  clear x1
  have c0 := cell_of_row w1 w.heap.size 0 _ _ _ BB.out
  have c1 := cell_of_row w1 w.heap.size 1 _ _ _ BB.out
  go_cut [5] (fun s5 wx => ∃ hb d0 d1 F0 F1, s5 = .pointer (some ⟨hb, 0, none⟩) ∧ wx.heap[hb]? = some (.cells #[.pointer (some ⟨d0, 0, none⟩), .pointer (some ⟨d1, 0, none⟩), .pointer none] 49 (0, 0)) ∧ DiskAt wx d0 F0 (Dsk.new s0) ∧ DiskAt wx d1 F1 (Dsk.new s1) ∧ (∀ k, F0 k → ¬ F1 k) ∧ (∀ k, F0 k ∨ F1 k → w1.heap.size ≤ k ∧ k < wx.heap.size ∧ k ≠ hb) ∧ w1.heap.size ≤ hb ∧ Chg (fun _ => False) w1 wx)
  case first =>
    have hc0 := c0
    have hc1 := c1
    refine wp_region_lexT (fun w' => w'.cell? ⟨w.heap.size, 0, none⟩ = some (.int .i64 s0) ∧ w'.cell? ⟨w.heap.size, 1, none⟩ = some (.int .i64 s1)) 8 (.free 0 (.free 1 (.free 3 (.free 4 (.fork 2 7 (.fork 5 7 (.free 6 (.one 7 (.one 8 .done))) (.one 5 (.free 6 (.one 8 .done)))) (.one 2 (.one 5 (.free 6 (.one 8 .done))))))))) (by kernel_rfl) (by kernel_rfl) ⟨c0, c1⟩ ?_
    replace hc0 : w1.drew.cell? ⟨w.heap.size, 0, none⟩ = some (.int .i64 s0) := hc0
    replace hc1 : w1.drew.cell? ⟨w.heap.size, 1, none⟩ = some (.int .i64 s1) := hc1
    clear c0 c1
    iterate 4
      refine' lexT_free (v := _) rfl rfl ?_ (fun _ _ _ h => h) ?_
      rotate_left
      · rintro W ⟨hW1, hW2⟩
        go_simp
        with_reducible rfl
      try simp only [Act.put, List.setIfInBounds_toArray, List.set_cons_zero, List.set_cons_succ]
    refine lexT_fork rfl rfl rfl rfl (fun K hK => ?_) (fun K hK => ?_)
    · go_simp
      refine (new_any s0 _).mono ?_
      rintro e w2 ⟨r0, rfl, d0, x0⟩
      have kk0 := (cell_of_heap (x0.keep w.heap.size (lt_of_cell hc0) (fun h => h)) (o := 0)).trans hc0
      have kk1 := (cell_of_heap (x0.keep w.heap.size (lt_of_cell hc0) (fun h => h)) (o := 1)).trans hc1
      refine hK _ _ (fun _ => ⟨kk0, kk1⟩) ?_
      clear hK K
      replace hc0 := kk0
      replace hc1 := kk1
      clear kk0 kk1
      try simp only [Act.put, List.setIfInBounds_toArray, List.set_cons_zero, List.set_cons_succ]
      refine lexT_fork rfl rfl rfl rfl (fun K hK => ?_) (fun K hK => ?_)
      · go_simp
        refine (new_any s1 _).mono ?_
        rintro e w3 ⟨r1, rfl, d1, x1⟩
        have kk0 := (cell_of_heap (x1.keep w.heap.size (lt_of_cell hc0) (fun h => h)) (o := 0)).trans hc0
        have kk1 := (cell_of_heap (x1.keep w.heap.size (lt_of_cell hc0) (fun h => h)) (o := 1)).trans hc1
        refine hK _ _ (fun _ => ⟨kk0, kk1⟩) ?_
        clear hK K
        replace hc0 := kk0
        replace hc1 := kk1
        clear kk0 kk1
        try simp only [Act.put, List.setIfInBounds_toArray, List.set_cons_zero, List.set_cons_succ]
        iterate 1
          refine' lexT_free (v := _) rfl rfl ?_ (fun _ _ _ h => h) ?_
          rotate_left
          · rintro W ⟨hW1, hW2⟩
            go_simp
            with_reducible rfl
          try simp only [Act.put, List.setIfInBounds_toArray, List.set_cons_zero, List.set_cons_succ]
        refine lexT_one rfl rfl (fun K hK => ?_)
        go_simp
        refine hK _ _ (fun _ => ⟨(World.cell?_alloc_lt _ _ _ (lt_of_cell hc0)).trans hc0, (World.cell?_alloc_lt _ _ _ (lt_of_cell hc0)).trans hc1⟩) ?_
        clear hK K
        replace hc1 := (World.cell?_alloc_lt _ (.cells #[.pointer none, .pointer none, .pointer none] 49) _ (lt_of_cell hc0)).trans hc1
        replace hc0 := (World.cell?_alloc_lt _ (.cells #[.pointer none, .pointer none, .pointer none] 49) _ (lt_of_cell hc0)).trans hc0
        try simp only [Act.put, List.setIfInBounds_toArray, List.set_cons_zero, List.set_cons_succ]
        refine lexT_one rfl rfl (fun K hK => ?_)
        have hh := hal_new (w := w3) (o := (.cells #[.pointer none, .pointer none, .pointer none] 49))
        refine wp_store_mid 49 _ _ rfl w3.heap.size 0 #[.pointer (some ⟨r0, 0, none⟩), .pointer (some ⟨r1, 0, none⟩), .pointer none] rfl rfl (there_of_heap hh (by simp)) (by kernel_rfl) (by simp [Value.oneCell']) ?_
        refine hK _ _ (fun h => absurd rfl h) ?_
        clear hK K
        refine lexT_done ?_
        go_wp2
        go_meet
        exact fin3a w1 w2 w3 r0 r1 s0 s1 d0 x0 d1 x1
      · go_simp
        refine hK _ _ (fun _ => ⟨(World.cell?_alloc_lt _ _ _ (lt_of_cell hc0)).trans hc0, (World.cell?_alloc_lt _ _ _ (lt_of_cell hc0)).trans hc1⟩) ?_
        clear hK K
        replace hc1 := (World.cell?_alloc_lt _ (.cells #[.pointer none, .pointer none, .pointer none] 49) _ (lt_of_cell hc0)).trans hc1
        replace hc0 := (World.cell?_alloc_lt _ (.cells #[.pointer none, .pointer none, .pointer none] 49) _ (lt_of_cell hc0)).trans hc0
        try simp only [Act.put, List.setIfInBounds_toArray, List.set_cons_zero, List.set_cons_succ]
        refine lexT_one rfl rfl (fun K hK => ?_)
        go_simp
        refine (new_any s1 _).mono ?_
        rintro e w3 ⟨r1, rfl, d1, x1⟩
        have kk0 := (cell_of_heap (x1.keep w.heap.size (lt_of_cell hc0) (fun h => h)) (o := 0)).trans hc0
        have kk1 := (cell_of_heap (x1.keep w.heap.size (lt_of_cell hc0) (fun h => h)) (o := 1)).trans hc1
        refine hK _ _ (fun _ => ⟨kk0, kk1⟩) ?_
        clear hK K
        replace hc0 := kk0
        replace hc1 := kk1
        clear kk0 kk1
        try simp only [Act.put, List.setIfInBounds_toArray, List.set_cons_zero, List.set_cons_succ]
        iterate 1
          refine' lexT_free (v := _) rfl rfl ?_ (fun _ _ _ h => h) ?_
          rotate_left
          · rintro W ⟨hW1, hW2⟩
            go_simp
            with_reducible rfl
          try simp only [Act.put, List.setIfInBounds_toArray, List.set_cons_zero, List.set_cons_succ]
        refine lexT_one rfl rfl (fun K hK => ?_)
        have hh := x1.heap (hal_new (w := w2) (o := (.cells #[.pointer none, .pointer none, .pointer none] 49))) (fun h => h)
        refine wp_store_mid 49 _ _ rfl w2.heap.size 0 #[.pointer (some ⟨r0, 0, none⟩), .pointer (some ⟨r1, 0, none⟩), .pointer none] rfl rfl (there_of_heap hh (by simp)) (by kernel_rfl) (by simp [Value.oneCell']) ?_
        refine hK _ _ (fun h => absurd rfl h) ?_
        clear hK K
        refine lexT_done ?_
        go_wp2
        go_meet
        exact fin3b w1 w2 w3 r0 r1 s0 s1 d0 x0 d1 x1
    · go_simp
      refine hK _ _ (fun _ => ⟨(World.cell?_alloc_lt _ _ _ (lt_of_cell hc0)).trans hc0, (World.cell?_alloc_lt _ _ _ (lt_of_cell hc0)).trans hc1⟩) ?_
      clear hK K
      replace hc1 := (World.cell?_alloc_lt _ (.cells #[.pointer none, .pointer none, .pointer none] 49) _ (lt_of_cell hc0)).trans hc1
      replace hc0 := (World.cell?_alloc_lt _ (.cells #[.pointer none, .pointer none, .pointer none] 49) _ (lt_of_cell hc0)).trans hc0
      try simp only [Act.put, List.setIfInBounds_toArray, List.set_cons_zero, List.set_cons_succ]
      refine lexT_one rfl rfl (fun K hK => ?_)
      go_simp
      refine (new_any s0 _).mono ?_
      rintro e w2 ⟨r0, rfl, d0, x0⟩
      have kk0 := (cell_of_heap (x0.keep w.heap.size (lt_of_cell hc0) (fun h => h)) (o := 0)).trans hc0
      have kk1 := (cell_of_heap (x0.keep w.heap.size (lt_of_cell hc0) (fun h => h)) (o := 1)).trans hc1
      refine hK _ _ (fun _ => ⟨kk0, kk1⟩) ?_
      clear hK K
      replace hc0 := kk0
      replace hc1 := kk1
      clear kk0 kk1
      try simp only [Act.put, List.setIfInBounds_toArray, List.set_cons_zero, List.set_cons_succ]
      refine lexT_one rfl rfl (fun K hK => ?_)
      go_simp
      refine (new_any s1 _).mono ?_
      rintro e w3 ⟨r1, rfl, d1, x1⟩
      have kk0 := (cell_of_heap (x1.keep w.heap.size (lt_of_cell hc0) (fun h => h)) (o := 0)).trans hc0
      have kk1 := (cell_of_heap (x1.keep w.heap.size (lt_of_cell hc0) (fun h => h)) (o := 1)).trans hc1
      refine hK _ _ (fun _ => ⟨kk0, kk1⟩) ?_
      clear hK K
      replace hc0 := kk0
      replace hc1 := kk1
      clear kk0 kk1
      try simp only [Act.put, List.setIfInBounds_toArray, List.set_cons_zero, List.set_cons_succ]
      iterate 1
        refine' lexT_free (v := _) rfl rfl ?_ (fun _ _ _ h => h) ?_
        rotate_left
        · rintro W ⟨hW1, hW2⟩
          go_simp
          with_reducible rfl
        try simp only [Act.put, List.setIfInBounds_toArray, List.set_cons_zero, List.set_cons_succ]
      refine lexT_one rfl rfl (fun K hK => ?_)
      have hh := x1.heap (x0.heap (hal_new (w := w1.drew) (o := (.cells #[.pointer none, .pointer none, .pointer none] 49))) (fun h => h)) (fun h => h)
      refine wp_store_mid 49 _ _ rfl w1.heap.size 0 #[.pointer (some ⟨r0, 0, none⟩), .pointer (some ⟨r1, 0, none⟩), .pointer none] rfl rfl (there_of_heap hh (by simp)) (by kernel_rfl) (by simp [Value.oneCell']) ?_
      refine hK _ _ (fun h => absurd rfl h) ?_
      clear hK K
      refine lexT_done ?_
      go_wp2
      go_meet
      exact fin3c w1 w2 w3 r0 r1 s0 s1 d0 x0 d1 x1
  case rest =>
    obtain ⟨hb, d0, d1, F0, F1, rfl, hh, D0, D1, hd, hF, hb1, hx⟩ := hcut
    generalize wc = wA at *
    have A2 := Lib.hid hh; have D02 := Lib.hid D0; have D12 := Lib.hid D1; have HD := Lib.hid hd; have HF := Lib.hid hF; have X2 := Lib.hid hx
    have z2 := hx.size
    have c0 := cell_of_row wA w.heap.size 0 _ _ _ (hx.heap BB.out (fun h => h))
    have c1 := cell_of_row wA w.heap.size 1 _ _ _ (hx.heap BB.out (fun h => h))
    clear hh D0 D1 hd hF hx
    go_wp2_with fail
    go_cut [6] (fun s5 wx => ∃ hb d0 d1 F0 F1, s5 = .pointer (some ⟨hb, 0, none⟩) ∧ wx.heap[hb]? = some (.cells #[.pointer (some ⟨d0, 0, none⟩), .pointer (some ⟨d1, 0, none⟩), .pointer none] 52 (0, 0)) ∧ RefAt wx d0 F0 (Dsk.new s0) ∧ RefAt wx d1 F1 (Dsk.new s1) ∧ (∀ k, F0 k → ¬ F1 k) ∧ (∀ k, F0 k ∨ F1 k → wA.heap.size ≤ k ∧ k < wx.heap.size ∧ k ≠ hb) ∧ wA.heap.size ≤ hb ∧ Chg (fun _ => False) wA wx)
    case first =>
      have hc0 := c0
      have hc1 := c1
      refine wp_region_lexT (fun w' => w'.cell? ⟨w.heap.size, 0, none⟩ = some (.int .i64 s0) ∧ w'.cell? ⟨w.heap.size, 1, none⟩ = some (.int .i64 s1)) 8 (.free 0 (.free 1 (.free 3 (.free 4 (.fork 2 7 (.fork 5 7 (.free 6 (.one 7 (.one 8 .done))) (.one 5 (.free 6 (.one 8 .done)))) (.one 2 (.one 5 (.free 6 (.one 8 .done))))))))) (by kernel_rfl) (by kernel_rfl) ⟨c0, c1⟩ ?_
      replace hc0 : wA.drew.cell? ⟨w.heap.size, 0, none⟩ = some (.int .i64 s0) := hc0
      replace hc1 : wA.drew.cell? ⟨w.heap.size, 1, none⟩ = some (.int .i64 s1) := hc1
      clear c0 c1
      iterate 4
        refine' lexT_free (v := _) rfl rfl ?_ (fun _ _ _ h => h) ?_
        rotate_left
        · rintro W ⟨hW1, hW2⟩
          go_simp
          with_reducible rfl
        try simp only [Act.put, List.setIfInBounds_toArray, List.set_cons_zero, List.set_cons_succ]
      refine lexT_fork rfl rfl rfl rfl (fun K hK => ?_) (fun K hK => ?_)
      · go_simp
        refine (rnew_any s0 _).mono ?_
        rintro e w2 ⟨r0, rfl, d0, x0⟩
        have kk0 := (cell_of_heap (x0.keep w.heap.size (lt_of_cell hc0) (fun h => h)) (o := 0)).trans hc0
        have kk1 := (cell_of_heap (x0.keep w.heap.size (lt_of_cell hc0) (fun h => h)) (o := 1)).trans hc1
        refine hK _ _ (fun _ => ⟨kk0, kk1⟩) ?_
        clear hK K
        replace hc0 := kk0
        replace hc1 := kk1
        clear kk0 kk1
        try simp only [Act.put, List.setIfInBounds_toArray, List.set_cons_zero, List.set_cons_succ]
        refine lexT_fork rfl rfl rfl rfl (fun K hK => ?_) (fun K hK => ?_)
        · go_simp
          refine (rnew_any s1 _).mono ?_
          rintro e w3 ⟨r1, rfl, d1, x1⟩
          have kk0 := (cell_of_heap (x1.keep w.heap.size (lt_of_cell hc0) (fun h => h)) (o := 0)).trans hc0
          have kk1 := (cell_of_heap (x1.keep w.heap.size (lt_of_cell hc0) (fun h => h)) (o := 1)).trans hc1
          refine hK _ _ (fun _ => ⟨kk0, kk1⟩) ?_
          clear hK K
          replace hc0 := kk0
          replace hc1 := kk1
          clear kk0 kk1
          try simp only [Act.put, List.setIfInBounds_toArray, List.set_cons_zero, List.set_cons_succ]
          iterate 1
            refine' lexT_free (v := _) rfl rfl ?_ (fun _ _ _ h => h) ?_
            rotate_left
            · rintro W ⟨hW1, hW2⟩
              go_simp
              with_reducible rfl
            try simp only [Act.put, List.setIfInBounds_toArray, List.set_cons_zero, List.set_cons_succ]
          refine lexT_one rfl rfl (fun K hK => ?_)
          go_simp
          refine hK _ _ (fun _ => ⟨(World.cell?_alloc_lt _ _ _ (lt_of_cell hc0)).trans hc0, (World.cell?_alloc_lt _ _ _ (lt_of_cell hc0)).trans hc1⟩) ?_
          clear hK K
          replace hc1 := (World.cell?_alloc_lt _ (.cells #[.pointer none, .pointer none, .pointer none] 52) _ (lt_of_cell hc0)).trans hc1
          replace hc0 := (World.cell?_alloc_lt _ (.cells #[.pointer none, .pointer none, .pointer none] 52) _ (lt_of_cell hc0)).trans hc0
          try simp only [Act.put, List.setIfInBounds_toArray, List.set_cons_zero, List.set_cons_succ]
          refine lexT_one rfl rfl (fun K hK => ?_)
          have hh := hal_new (w := w3) (o := (.cells #[.pointer none, .pointer none, .pointer none] 52))
          refine wp_store_mid 52 _ _ rfl w3.heap.size 0 #[.pointer (some ⟨r0, 0, none⟩), .pointer (some ⟨r1, 0, none⟩), .pointer none] rfl rfl (there_of_heap hh (by simp)) (by kernel_rfl) (by simp [Value.oneCell']) ?_
          refine hK _ _ (fun h => absurd rfl h) ?_
          clear hK K
          refine lexT_done ?_
          go_wp2
          go_meet
          exact rfin3a wA w2 w3 r0 r1 s0 s1 d0 x0 d1 x1
        · go_simp
          refine hK _ _ (fun _ => ⟨(World.cell?_alloc_lt _ _ _ (lt_of_cell hc0)).trans hc0, (World.cell?_alloc_lt _ _ _ (lt_of_cell hc0)).trans hc1⟩) ?_
          clear hK K
          replace hc1 := (World.cell?_alloc_lt _ (.cells #[.pointer none, .pointer none, .pointer none] 52) _ (lt_of_cell hc0)).trans hc1
          replace hc0 := (World.cell?_alloc_lt _ (.cells #[.pointer none, .pointer none, .pointer none] 52) _ (lt_of_cell hc0)).trans hc0
          try simp only [Act.put, List.setIfInBounds_toArray, List.set_cons_zero, List.set_cons_succ]
          refine lexT_one rfl rfl (fun K hK => ?_)
          go_simp
          refine (rnew_any s1 _).mono ?_
          rintro e w3 ⟨r1, rfl, d1, x1⟩
          have kk0 := (cell_of_heap (x1.keep w.heap.size (lt_of_cell hc0) (fun h => h)) (o := 0)).trans hc0
          have kk1 := (cell_of_heap (x1.keep w.heap.size (lt_of_cell hc0) (fun h => h)) (o := 1)).trans hc1
          refine hK _ _ (fun _ => ⟨kk0, kk1⟩) ?_
          clear hK K
          replace hc0 := kk0
          replace hc1 := kk1
          clear kk0 kk1
          try simp only [Act.put, List.setIfInBounds_toArray, List.set_cons_zero, List.set_cons_succ]
          iterate 1
            refine' lexT_free (v := _) rfl rfl ?_ (fun _ _ _ h => h) ?_
            rotate_left
            · rintro W ⟨hW1, hW2⟩
              go_simp
              with_reducible rfl
            try simp only [Act.put, List.setIfInBounds_toArray, List.set_cons_zero, List.set_cons_succ]
          refine lexT_one rfl rfl (fun K hK => ?_)
          have hh := x1.heap (hal_new (w := w2) (o := (.cells #[.pointer none, .pointer none, .pointer none] 52))) (fun h => h)
          refine wp_store_mid 52 _ _ rfl w2.heap.size 0 #[.pointer (some ⟨r0, 0, none⟩), .pointer (some ⟨r1, 0, none⟩), .pointer none] rfl rfl (there_of_heap hh (by simp)) (by kernel_rfl) (by simp [Value.oneCell']) ?_
          refine hK _ _ (fun h => absurd rfl h) ?_
          clear hK K
          refine lexT_done ?_
          go_wp2
          go_meet
          exact rfin3b wA w2 w3 r0 r1 s0 s1 d0 x0 d1 x1
      · go_simp
        refine hK _ _ (fun _ => ⟨(World.cell?_alloc_lt _ _ _ (lt_of_cell hc0)).trans hc0, (World.cell?_alloc_lt _ _ _ (lt_of_cell hc0)).trans hc1⟩) ?_
        clear hK K
        replace hc1 := (World.cell?_alloc_lt _ (.cells #[.pointer none, .pointer none, .pointer none] 52) _ (lt_of_cell hc0)).trans hc1
        replace hc0 := (World.cell?_alloc_lt _ (.cells #[.pointer none, .pointer none, .pointer none] 52) _ (lt_of_cell hc0)).trans hc0
        try simp only [Act.put, List.setIfInBounds_toArray, List.set_cons_zero, List.set_cons_succ]
        refine lexT_one rfl rfl (fun K hK => ?_)
        go_simp
        refine (rnew_any s0 _).mono ?_
        rintro e w2 ⟨r0, rfl, d0, x0⟩
        have kk0 := (cell_of_heap (x0.keep w.heap.size (lt_of_cell hc0) (fun h => h)) (o := 0)).trans hc0
        have kk1 := (cell_of_heap (x0.keep w.heap.size (lt_of_cell hc0) (fun h => h)) (o := 1)).trans hc1
        refine hK _ _ (fun _ => ⟨kk0, kk1⟩) ?_
        clear hK K
        replace hc0 := kk0
        replace hc1 := kk1
        clear kk0 kk1
        try simp only [Act.put, List.setIfInBounds_toArray, List.set_cons_zero, List.set_cons_succ]
        refine lexT_one rfl rfl (fun K hK => ?_)
        go_simp
        refine (rnew_any s1 _).mono ?_
        rintro e w3 ⟨r1, rfl, d1, x1⟩
        have kk0 := (cell_of_heap (x1.keep w.heap.size (lt_of_cell hc0) (fun h => h)) (o := 0)).trans hc0
        have kk1 := (cell_of_heap (x1.keep w.heap.size (lt_of_cell hc0) (fun h => h)) (o := 1)).trans hc1
        refine hK _ _ (fun _ => ⟨kk0, kk1⟩) ?_
        clear hK K
        replace hc0 := kk0
        replace hc1 := kk1
        clear kk0 kk1
        try simp only [Act.put, List.setIfInBounds_toArray, List.set_cons_zero, List.set_cons_succ]
        iterate 1
          refine' lexT_free (v := _) rfl rfl ?_ (fun _ _ _ h => h) ?_
          rotate_left
          · rintro W ⟨hW1, hW2⟩
            go_simp
            with_reducible rfl
          try simp only [Act.put, List.setIfInBounds_toArray, List.set_cons_zero, List.set_cons_succ]
        refine lexT_one rfl rfl (fun K hK => ?_)
        have hh := x1.heap (x0.heap (hal_new (w := wA.drew) (o := (.cells #[.pointer none, .pointer none, .pointer none] 52))) (fun h => h)) (fun h => h)
        refine wp_store_mid 52 _ _ rfl wA.heap.size 0 #[.pointer (some ⟨r0, 0, none⟩), .pointer (some ⟨r1, 0, none⟩), .pointer none] rfl rfl (there_of_heap hh (by simp)) (by kernel_rfl) (by simp [Value.oneCell']) ?_
        refine hK _ _ (fun h => absurd rfl h) ?_
        clear hK K
        refine lexT_done ?_
        go_wp2
        go_meet
        exact rfin3c wA w2 w3 r0 r1 s0 s1 d0 x0 d1 x1
    case rest =>
      obtain ⟨wb, r0, r1, G0, G1, rfl, hw, R0, R1, hd2, hG, wb1, hx2⟩ := hcut
      generalize wc = wB at *
      have T0 := Lib.hid (tri_start (Nat.le_refl _) A2.out D02.out D12.out HD.out HF.out hb1 hw R0 R1 hd2 hG wb1 hx2 z2)
      have Y0 := Lib.hid (show From w.heap.size w wB from (((X1.out.trans X2.out (fun _ h => h.elim)).trans hx2 (fun _ h => h.elim)).mono (fun _ h => h.elim)))
      have z3 := hx2.size
      clear hw R0 R1 hd2 hG hx2 c0 c1 A2 D02 D12 HD HF
      go_wp2
      go_loopw [7] (fun s wr => ∃ (i : Nat) (hv uv : Nat → Value) (o : Nat → Option Dsk) (F : Nat → Nat → Prop), i ≤ len ∧ s = .int .i64 i ∧ Tri wr w1.heap.size hb wb hv uv o F ∧ Few o i ∧ From w.heap.size w wr ∧ w1.heap.size ≤ wr.heap.size) (fun s _ => len - (intOf s).toNat)
      case atStart => exact ⟨0, _, _, _, _, Nat.zero_le _, rfl, T0.out, few_start s0 s1, Y0.out, by omega⟩
      case round =>
        clear T0 Y0
        obtain ⟨i, hv, uv, o, F, hi, rfl, ht, hf, hy, hz⟩ := hrel
        have HT := Lib.hid ht; have HFW := Lib.hid hf; have HY := Lib.hid hy
        clear ht hf hy
        by_cases hlt : i < len
        · obtain ⟨b, off, rfl, hbl, hc⟩ := HP.out (by omega)
          have hc0 := HY.out.at hbl (hc i 0 hlt (by omega))
          have hc1 := HY.out.at hbl (hc i 1 hlt (by omega))
          have hc2 := HY.out.at hbl (hc i 2 hlt (by omega))
          have hc3 := HY.out.at hbl (hc i 3 hlt (by omega))
          have hc4 := HY.out.at hbl (hc i 4 hlt (by omega))
          simp only [if_true, if_false, Nat.add_zero, Nat.one_ne_zero, Nat.reduceEqDiff] at hc0 hc1 hc2 hc3 hc4
          clear hc
          obtain ⟨q0, q1, q2⟩ := HR.out i hlt
          have HK := Lib.hid (HB.out i hlt)
          generalize K i = Ki at *
          generalize On i = Oi at *
          generalize N i = Ni at *
          generalize S i = Si at *
          generalize ka i = kai at *
          generalize kl i = kli at *
          generalize kc i = kci at *
          generalize ks i = ksi at *
          obtain ⟨m, hm, hm3⟩ := third_of Oi
          have T1 := Lib.hid (HT.out.quiet ((Chg.refl (fun _ => False) wr).alloc (.cells #[.int .i64 Ki, .int .i64 Oi, .int .i64 Ni, .int .u8 Si, .slice kai kli kci] 54)))
          have Y1 := Lib.hid (HY.out.alloc (.cells #[.int .i64 Ki, .int .i64 Oi, .int .i64 Ni, .int .u8 Si, .slice kai kli kci] 54))
          have LB := Lib.hid (show ∀ j, j < 3 → ∀ k, F j k → k ≠ wr.heap.size from fun j hj k hk => by have := HT.out.lb j hj k hk; omega)
          have hbw := HT.out.have_.lt
          have hww := HT.out.want.lt
          have hgb := HT.out.ghb
          have hgw := HT.out.gwb
          have hzw : w1.heap.size ≤ (wr.alloc (.cells #[.int .i64 Ki, .int .i64 Oi, .int .i64 Ni, .int .u8 Si, .slice kai kli kci] 54)).heap.size := by simp; omega
          have BO := Lib.hid (hal_new (w := wr) (o := .cells #[.int .i64 Ki, .int .i64 Oi, .int .i64 Ni, .int .u8 Si, .slice kai kli kci] 54))
          have hbw2 := T1.out.have_.lt
          have hww2 := T1.out.want.lt
          have hne := T1.out.ne
          have hne2 := T1.out.ne.symm
          have hf1 := T1.out.have_.free m
          have hf2 := T1.out.want.free m
          have ha1 := T1.out.have_.cell hm3
          have ha2 := T1.out.want.cell hm3
          have HE := Lib.hid hm
          by_cases h6 : Ki = 6
          · subst h6
            obtain ⟨m1, hm1, hm13, hmne⟩ : ∃ m1 : Nat, ((m : Int) + 1) % 3 = m1 ∧ m1 < 3 ∧ m1 ≠ m := ⟨(m + 1) % 3, by omega, by omega, by omega⟩
            have hcm := T1.out.have_.cell hm13
            have hpv := T1.out.pv m1 hm13
            have HE1 := Lib.hid hm1
            have hcw := T1.out.want.cell hm13
            cases ho : o m1 with
            | none =>
              rw [ho] at hpv
              obtain ⟨hv1, hu1⟩ := hpv
              rw [hv1] at hcm
              rw [hu1] at hcw
              clear hv1 hu1
              go_wp2_with fail
              generalize (wr.alloc (.cells #[.int .i64 6, .int .i64 Oi, .int .i64 Ni, .int .u8 Si, .slice kai kli kci] 54)) = W1 at *
              refine (dclone_nil _).mono ?_
              rintro e w4 ⟨rfl, rfl⟩
              have T2 := Lib.hid (tri_none T1.out hzw hm3)
              generalize hv m = hvm at *
              generalize uv m = uvm at *
              go_wp2_with fail
              refine (rclone_nil _).mono ?_
              rintro e w4 ⟨rfl, rfl⟩
              go_wp2
              obtain ⟨F', t2, y2⟩ := T2.out
              have T3 := Lib.hid t2; have Y3 := Lib.hid y2
              clear t2 y2 T2
              go_roundw
              case rel =>
                exact ⟨i + 1, _, _, _, F', by omega, by go_num, T3.out, HFW.out.none m, Y1.out.trans Y3.out (fun k hk => .inl (by omega)), by have := Y3.out.size; omega⟩
              case measure => simp [intOf]; omega
            | some D =>
              rw [ho] at hpv
              obtain ⟨d, r, A, B, hv1, hu1, hdu, hA, hB'⟩ := hpv
              rw [hv1] at hcm
              rw [hu1] at hcw
              have hDl := HFW.out m1 hm13 D ho
              have HU1 := Lib.hid hu1; have HDU := Lib.hid hdu; have HAF := Lib.hid hA; have HBF := Lib.hid hB'
              clear hv1 hu1 hdu hA hB'
              go_wp2_with fail
              generalize (wr.alloc (.cells #[.int .i64 6, .int .i64 Oi, .int .i64 Ni, .int .u8 Si, .slice kai kli kci] 54)) = W1 at *
              refine (dclone_any d A D _ HDU.out.disk (by omega)).mono ?_
              rintro e w2 ⟨d', rfl, D2, X2⟩
              have T2 := Lib.hid (T1.out.quiet X2)
              have hcw := T2.out.want.cell hm13
              rw [HU1.out] at hcw
              have hf1 := T2.out.have_.free m
              have ha1 := T2.out.have_.cell hm3
              have D2h := Lib.hid D2; have X2h := Lib.hid X2
              clear D2 X2 ha2 hf2
              go_wp2_with fail
              have y2 : Chg (fun k => k = hb) w2 (w2.setCell ⟨hb, m, none⟩ (.pointer (some ⟨d', 0, none⟩))) := (Chg.refl (fun k => k = hb) w2).setCell (p := ⟨hb, m, none⟩) (.inl rfl) _
              refine (rclone_any r B D _ ((HDU.out.ref.chg X2h.out (fun _ _ h => h)).chg y2 (fun k hk e => (T1.out.out m1 hm13 k (HBF.out k hk)).2.1 e)) (by omega)).mono ?_
              rintro e w3 ⟨r', rfl, R3, X3⟩
              have W3 := Lib.hid ((T2.out.want.chg y2 hne2).chg X3 (fun h => h))
              have hf2 := W3.out.free m
              have ha2 := W3.out.cell hm3
              have T3 := Lib.hid (tri_clone T1.out hzw hm3 d' r' D D2h.out X2h.out R3 X3)
              clear y2 R3 X3
              generalize uv m = uvm at *
              go_wp2
              obtain ⟨F', t2, y2⟩ := T3.out
              have T4 := Lib.hid t2; have Y3 := Lib.hid y2
              clear t2 y2 T3
              go_roundw
              case rel =>
                exact ⟨i + 1, _, _, _, F', by omega, by go_num, T4.out, HFW.out.put m D (by omega), Y1.out.trans Y3.out (fun k hk => .inl (by omega)), by have := Y3.out.size; omega⟩
              case measure => simp [intOf]; omega
          · have hq : (Ki == 6) = false := by simp [h6]
            have hbo := lt_of_heap BO.out
            have ko0 := cell_of_row _ wr.heap.size 0 _ _ _ BO.out
            have ko1 := cell_of_row _ wr.heap.size 1 _ _ _ BO.out
            have ko2 := cell_of_row _ wr.heap.size 2 _ _ _ BO.out
            have ko3 := cell_of_row _ wr.heap.size 3 _ _ _ BO.out
            have ko4 := cell_of_row _ wr.heap.size 4 _ _ _ BO.out
            have hpv := T1.out.pv m hm3
            have HPV := Lib.hid hpv
            have HQ6 := Lib.hid h6
            have mi0 : (0 : Int) ≤ (m : Int) := by omega
            have mi3 : (m : Int) < 3 := by omega
            clear hpv h6
            go_wp2_with fail
            generalize (wr.alloc (.cells #[.int .i64 Ki, .int .i64 Oi, .int .i64 Ni, .int .u8 Si, .slice kai kli kci] 54)) = W1 at *
            generalize hgm : hv m = hvm at *
            generalize hum : uv m = uvm at *
            have HGM := Lib.hid hgm; have HUM := Lib.hid hum
            clear hgm hum
            refine wp_region_lex (fun w' => w'.cell? ⟨hb, m, none⟩ = some hvm ∧ w'.cell? ⟨wb, m, none⟩ = some uvm ∧ w'.cell? ⟨wr.heap.size, 0, none⟩ = some (.int .i64 Ki) ∧ w'.cell? ⟨wr.heap.size, 1, none⟩ = some (.int .i64 Oi) ∧ w'.cell? ⟨wr.heap.size, 2, none⟩ = some (.int .i64 Ni) ∧ w'.cell? ⟨wr.heap.size, 3, none⟩ = some (.int .u8 Si) ∧ w'.cell? ⟨wr.heap.size, 4, none⟩ = some (.slice kai kli kci)) 8 [7, 8] [0, 1, 2, 3, 4, 5, 6, 7, 8] (by kernel_rfl) (by kernel_rfl) ⟨ha1, ha2, ko0, ko1, ko2, ko3, ko4⟩ ?_
            iterate 7
              refine' lex_free (v := _) rfl rfl rfl ?_ (fun _ _ _ h => h) ?_
              rotate_left
              · rintro W ⟨hW1, hW2, hW3, hW4, hW5, hW6, hW7⟩
                go_simp
                with_reducible rfl
              try simp only [Act.put, List.setIfInBounds_toArray, List.set_cons_zero, List.set_cons_succ]
            have hpv := HPV.out
            have hxd : Chg (fun _ => False) W1 W1.drew := (Chg.refl _ W1).drew
            cases ho : o m with
            | none =>
              rw [ho] at hpv
              obtain ⟨rfl, rfl⟩ := hpv
              refine lex_op rfl rfl rfl (fun K hK => ?_)
              go_simp
              refine (rightn_any _ Ki Oi Ni Si kai kli kci).mono ?_
              rintro e w2 ⟨rfl, x2⟩
              have x3 := hxd.trans x2 (fun _ h => h.elim)
              refine hK _ _ (fun _ => ⟨(cell_of_heap (x3.keep _ hbw2 (fun h => h))).trans ha1, (cell_of_heap (x3.keep _ hww2 (fun h => h))).trans ha2, (cell_of_heap (x3.keep _ hbo (fun h => h))).trans ko0, (cell_of_heap (x3.keep _ hbo (fun h => h))).trans ko1, (cell_of_heap (x3.keep _ hbo (fun h => h))).trans ko2, (cell_of_heap (x3.keep _ hbo (fun h => h))).trans ko3, (cell_of_heap (x3.keep _ hbo (fun h => h))).trans ko4⟩) ?_
              clear hK K
              try simp only [Act.put, List.setIfInBounds_toArray, List.set_cons_zero, List.set_cons_succ]
              have X3 := Lib.hid x3
              clear x2 x3
              refine lex_op rfl rfl rfl (fun K hK => ?_)
              go_simp
              refine hK _ _ (fun h => absurd rfl h) ?_
              clear hK K
              refine lex_nil ?_
              go_wp2
              go_roundw
              case rel =>
                exact ⟨i + 1, _, _, _, _, by omega, by go_num, T1.out.quiet X3.out, HFW.out.succ, Y1.out.trans X3.out (fun k hk => hk.elim), by have := X3.out.size; omega⟩
              case measure => simp [intOf]; omega
            | some D =>
              rw [ho] at hpv
              obtain ⟨d, r, A, B, rfl, rfl, hdu, hA, hB'⟩ := hpv
              have hDl := HFW.out m hm3 D ho
              refine lex_op rfl rfl rfl (fun K hK => ?_)
              go_simp
              refine (right_any _ d r A B D Ki Oi Ni Si (.slice kai kli kci) ksi (hdu.chg hxd (fun _ h => h.elim)) q2 ((HK.out.chg (Y1.out.trans hxd (fun _ h => h.elim)) (fun _ h => h)).mono (fun k hk => ?_)) (by omega)).mono ?_
              · rcases hk with hk | hk
                · have := (T1.out.out m hm3 k (hA k hk)).1; omega
                · have := (T1.out.out m hm3 k (hB' k hk)).1; omega
              rintro e w2 ⟨rfl, A', B', x2⟩
              obtain ⟨F', t2, y2⟩ := (T1.out.quiet hxd).step hzw hm3 HGM.out HUM.out hA hB' x2
              have hch : Chg (fun k => A k ∨ B k) W1 w2 := (hxd.mono (fun _ h => h.elim)).trans x2.chg (fun k hk => .inl hk)
              have hof : ∀ k, A k ∨ B k → k ≠ hb ∧ k ≠ wb ∧ k ≠ wr.heap.size := fun k hk => by
                have hf : F m k := hk.elim (hA k) (hB' k)
                have := T1.out.out m hm3 k hf
                exact ⟨this.2.1, this.2.2, LB.out m hm3 k hf⟩
              refine hK _ _ (fun _ => ⟨(cell_of_heap (hch.keep _ hbw2 (fun h => (hof _ h).1 rfl))).trans ha1, (cell_of_heap (hch.keep _ hww2 (fun h => (hof _ h).2.1 rfl))).trans ha2, (cell_of_heap (hch.keep _ hbo (fun h => (hof _ h).2.2 rfl))).trans ko0, (cell_of_heap (hch.keep _ hbo (fun h => (hof _ h).2.2 rfl))).trans ko1, (cell_of_heap (hch.keep _ hbo (fun h => (hof _ h).2.2 rfl))).trans ko2, (cell_of_heap (hch.keep _ hbo (fun h => (hof _ h).2.2 rfl))).trans ko3, (cell_of_heap (hch.keep _ hbo (fun h => (hof _ h).2.2 rfl))).trans ko4⟩) ?_
              clear hK K
              try simp only [Act.put, List.setIfInBounds_toArray, List.set_cons_zero, List.set_cons_succ]
              have T4 := Lib.hid t2; have Y4 := Lib.hid (show From w1.heap.size W1 w2 from (hxd.mono (fun _ h => h.elim)).trans y2 (fun k hk => .inl hk))
              clear t2 y2 x2 hch hof hxd hdu hA hB'
              refine lex_op rfl rfl rfl (fun K hK => ?_)
              go_simp
              refine hK _ _ (fun h => absurd rfl h) ?_
              clear hK K
              refine lex_nil ?_
              go_wp2
              go_roundw
              case rel =>
                exact ⟨i + 1, _, _, _, F', by omega, by go_num, T4.out, HFW.out.put m _ (Nat.le_trans (stepD_wait Ki Ni Si ksi D) (by omega)), Y1.out.trans Y4.out (fun k hk => .inl (by omega)), by have := Y4.out.size; omega⟩
              case measure => simp [intOf]; omega
        · go_wp2
          obtain ⟨wo, hwo⟩ : ∃ wo : World, wo = wr := ⟨_, rfl⟩
          subst hwo
          go_loopw [10] (fun s wr => ∃ (k : Nat) (hv uv : Nat → Value) (o : Nat → Option Dsk) (F : Nat → Nat → Prop), k ≤ 3 ∧ s = .int .i64 k ∧ Tri wr w1.heap.size hb wb hv uv o F ∧ Few o (i + k) ∧ From w.heap.size w wr ∧ w1.heap.size ≤ wr.heap.size) (fun s _ => 3 - (intOf s).toNat)
          case atStart => exact ⟨0, _, _, _, _, by omega, rfl, HT.out, HFW.out, HY.out, hz⟩
          case round =>
            clear HT HFW HY hz hlt
            obtain ⟨k, hv, uv, o, F, hk, rfl, ht, hf, hy, hz⟩ := hrel
            have HT := Lib.hid ht; have HFW := Lib.hid hf; have HY := Lib.hid hy
            clear ht hf hy
            by_cases hlt : k < 3
            · have ki3 : (k : Int) < 3 := by omega
              have ki0 : (0 : Int) ≤ (k : Int) := by omega
              have hbw := HT.out.have_.lt
              have hww := HT.out.want.lt
              have ha1 := HT.out.have_.cell hlt
              have ha2 := HT.out.want.cell hlt
              have hpv := HT.out.pv k hlt
              cases ho : o k with
              | none =>
                rw [ho] at hpv
                obtain ⟨hv1, hu1⟩ := hpv
                rw [hv1] at ha1
                rw [hu1] at ha2
                have HV1 := Lib.hid hv1; have HU1 := Lib.hid hu1
                clear hv1 hu1
                go_wp2_with (first | (go_at_call 19; refine (restart_nil _ _).mono ?_; rintro e w9 ⟨rfl, rfl⟩) | (go_at_call 28; refine (rrestart_nil _ _).mono ?_; rintro e w9 ⟨rfl, rfl⟩))
                have X5 := Lib.hid (((Chg.refl (fun _ => False) wr).alloc (.cells #[.bool true, .bool false, .bool true] 4)).alloc (.cells #[.bool true, .bool false, .bool true] 4))
                have ha3 := (cell_of_heap (X5.out.keep wb hww (fun h => h))).trans ha2
                have T5 := Lib.hid (HT.out.quiet X5.out)
                have Y5 := Lib.hid (HY.out.trans X5.out (fun k hk => hk.elim))
                have z5 := X5.out.size
                generalize ((wr.alloc (.cells #[.bool true, .bool false, .bool true] 4)).alloc (.cells #[.bool true, .bool false, .bool true] 4)) = W5 at *
                clear X5 ha1 ha2 HT HY
                go_loopw [11] (fun s wx => wx = W5 ∧ ∃ n : Nat, s = .int .i64 n) (fun s _ => 0)
                case atStart => exact ⟨rfl, 0, rfl⟩
                case round =>
                  obtain ⟨rfl, n, rfl⟩ := hrel
                  go_wp2
                  go_roundw
                  case rel =>
                    exact ⟨k + 1, _, _, _, _, by omega, by go_num, T5.out, HFW.out.succ, Y5.out, by omega⟩
                  case measure => simp [intOf]; omega
              | some D =>
                rw [ho] at hpv
                obtain ⟨d, r, A, B, hv1, hu1, hdu, hA, hB'⟩ := hpv
                rw [hv1] at ha1
                rw [hu1] at ha2
                have hDl := HFW.out k hlt D ho
                have hx0 : Chg (fun _ => False) wr (wr.alloc (.cells #[.bool true, .bool false, .bool true] 4)) := (Chg.refl _ wr).alloc _
                have b0 : BoolsAt (wr.alloc (.cells #[.bool true, .bool false, .bool true] 4)) A (.slice (some ⟨wr.heap.size, 0, none⟩) 3 3) [true, false, true] := (bools_lit 0 [] wr [true, false, true] (by decide)).mono (fun x hx => ⟨by omega, by have := hdu.la x hx; simp; omega⟩)
                have X0 := Lib.hid hx0; have B0 := Lib.hid b0; have DU0 := Lib.hid (hdu.chg hx0 (fun _ h => h.elim))
                have T0 := Lib.hid (HT.out.quiet hx0)
                have hz1 : w1.heap.size ≤ (wr.alloc (.cells #[.bool true, .bool false, .bool true] 4)).heap.size := by simp; omega
                have hbw1 := T0.out.have_.lt
                have hww1 := T0.out.want.lt
                have HV1 := Lib.hid hv1; have HU1 := Lib.hid hu1; have HA := Lib.hid hA; have HB1 := Lib.hid hB'; have LB := Lib.hid hdu.lb
                have HNB := Lib.hid (show ¬ A wb from fun h => (HT.out.out k hlt _ (hA _ h)).2.2 rfl)
                clear hv1 hu1 hA hB' hx0 b0 hdu
                go_wp2_with fail
                generalize hW1 : wr.alloc (.cells #[.bool true, .bool false, .bool true] 4) = W1 at *
                clear hW1
                refine (restart_any d A D W1 _ [true, false, true] DU0.out.disk B0.out (by omega)).mono ?_
                rintro e w5 ⟨rfl, D5, C5⟩
                have ha3 := (cell_of_heap (C5.keep wb hww1 HNB.out) (o := k)).trans ((cell_of_heap (X0.out.keep wb hww (fun h => h))).trans ha2)
                have z5 : wr.heap.size ≤ w5.heap.size := by have := X0.out.size; have := C5.size; omega
                have b6 : BoolsAt (w5.alloc (.cells #[.bool true, .bool false, .bool true] 4)) B (.slice (some ⟨w5.heap.size, 0, none⟩) 3 3) [true, false, true] := (bools_lit 0 [] w5 [true, false, true] (by decide)).mono (fun x hx => ⟨by omega, by have := LB.out x hx; simp; omega⟩)
                have hx6 : Chg (fun _ => False) w5 (w5.alloc (.cells #[.bool true, .bool false, .bool true] 4)) := (Chg.refl _ w5).alloc _
                have B6 := Lib.hid b6; have X6 := Lib.hid hx6
                have R6 := Lib.hid ((DU0.out.ref.chg C5 (fun k hb ha => DU0.out.apart k ha hb)).chg hx6 (fun _ _ h => h))
                have D5h := Lib.hid D5; have C5h := Lib.hid C5
                clear ha1 ha2 b6 hx6 D5 C5
                go_wp2_with fail
                generalize hW6 : w5.alloc (.cells #[.bool true, .bool false, .bool true] 4) = W6 at *
                clear hW6
                refine (rrestart_any r B D W6 _ [true, false, true] R6.out B6.out).mono ?_
                rintro e w7 ⟨rfl, R7, C7⟩
                obtain ⟨A', B', x⟩ := DU0.out.both D5h.out C5h.out X6.out w7 R7 C7
                obtain ⟨F', t7, y7⟩ := T0.out.step hz1 hlt HV1.out HU1.out HA.out HB1.out x
                have hEw : (D.restart [true, false, true]).wait.length ≤ D.wait.length := by simp [Dsk.restart]
                generalize hE : D.restart [true, false, true] = E at *
                have T7 := Lib.hid t7; have Y7 := Lib.hid ((HY.out.trans X0.out (fun _ h => h.elim)).trans y7 (fun k hk => .inl (by omega))); have DU7 := Lib.hid x.duo
                have z7 := y7.size
                clear hE R7 C7 x t7 y7 R6 B6 X6 C5h D5h DU0 ha3 B0 T0 HA HB1 LB HNB X0 HY HT
                have hs1 := DU7.out.disk.ok.2.1
                have hs0 := DU7.out.disk.ok.1
                go_wp2
                go_loopw [11] (fun s wr => ∃ n : Nat, n ≤ 200 ∧ s = .int .i64 n ∧ Chg (fun _ => False) w7 wr) (fun s _ => 200 - (intOf s).toNat)
                case atStart => exact ⟨0, by omega, rfl, Chg.refl _ _⟩
                case round =>
                  obtain ⟨n, hn, rfl, hch⟩ := hrel
                  have TX := Lib.hid (T7.out.quiet hch); have DUX := Lib.hid (DU7.out.chg hch (fun _ h => h.elim)); have YX := Lib.hid (Y7.out.trans hch (fun _ h => h.elim)); have HCH := Lib.hid hch
                  have zx := hch.size
                  clear hch
                  have ha1 := TX.out.have_.cell hlt
                  have ha2 := TX.out.want.cell hlt
                  rw [HV1.out] at ha1
                  rw [HU1.out] at ha2
                  obtain ⟨kv', wv', hr⟩ := DUX.out.ref
                  have q0 := hr.cells.1
                  clear hr
                  by_cases hn1 : (n : Int) < E.size
                  · by_cases hn2 : n < 200
                    · have hrl : (E.readR n).length = 64 := by
                        unfold Dsk.readR
                        split
                        · exact DUX.out.disk.ok.2.2.2.2.1 n
                        · exact sec0_len
                      have l1 := (secC_len (E.readR n)).trans hrl
                      have i1 := info_secC hrl
                      have o1 := secC_one (E.readR n)
                      have qq := sec_equal_self (E.readR n) hrl
                      obtain ⟨cs, hcs⟩ : ∃ cs, secC (E.readR n) = cs := ⟨_, rfl⟩
                      obtain ⟨EE, hEE⟩ : ∃ EE, errOf E.size E.down n = EE := ⟨_, rfl⟩
                      rw [hcs] at l1 i1 o1 qq
                      have hr1 : secV (E.readR n) = .agg cs.toArray := by rw [← hcs]; rfl
                      have L1 := Lib.hid l1; have I1 := Lib.hid i1; have O1 := Lib.hid o1; have Q1 := Lib.hid qq; have HCS := Lib.hid hcs; have HEE := Lib.hid hEE; have HR1 := Lib.hid hr1
                      have HZ := Lib.hid info_sec0
                      clear hr1 hrl l1 i1 o1 qq hcs hEE
                      have hbwr := TX.out.have_.lt
                      have hwwr := TX.out.want.lt
                      go_wp2_with fail
                      refine (read_any d A' E n wr DUX.out.disk).mono ?_
                      rintro e w8 ⟨rfl, x8⟩
                      rw [HR1.out, HEE.out]
                      have H2 := Lib.hid (TX.out.quiet (x8.alloc (.cells cs.toArray 31)))
                      have D2 := Lib.hid (DUX.out.chg (x8.alloc (.cells cs.toArray 31)) (fun _ h => h.elim))
                      have X8 := Lib.hid x8
                      have ha3 := H2.out.want.cell hlt
                      rw [HU1.out] at ha3
                      clear x8 ha1 ha2 q0
                      go_wp2_with (first | (refine wpList_alloc_big rfl 31 64 rfl HZ.out (fun zs hzs => ?_); have HZ1 := Lib.hid hzs; clear hzs) | (refine wpList_store_new rfl 31 _ _ rfl cs _ rfl rfl rfl (L1.out.trans HZ1.out.symm) I1.out O1.out ?_))
                      have S2 := Lib.hid (hal_new (w := w8) (o := .cells cs.toArray 31))
                      have x8a := Lib.hid (X8.out.alloc (.cells cs.toArray 31))
                      generalize hW2 : (w8.alloc (.cells cs.toArray 31)) = W2 at *
                      clear hW2
                      refine (rread_any r B' E n W2 D2.out.ref).mono ?_
                      rintro e w9 ⟨rfl, x9⟩
                      rw [HCS.out, HEE.out]
                      have S3 := Lib.hid (x9.heap S2.out (fun h => h))
                      have l3 := lt_of_heap S3.out
                      have RA := Lib.hid (range_of_heap (hal_old (w := w9) (o := .cells cs.toArray 31) l3) (range_block S3.out)); have RB := Lib.hid (range_block (hal_new (w := w9) (o := .cells cs.toArray 31)))
                      have X9 := Lib.hid ((x8a.out.trans x9 (fun _ h => h.elim)).alloc (.cells cs.toArray 31))
                      clear x9 ha3
                      have q1 := Q1.out
                      have qg := sec_guard
                      go_wp2_with (first | (refine wpList_alloc_big rfl 31 64 rfl HZ.out (fun zs hzs => ?_); have HZ2 := Lib.hid hzs; clear hzs) | (refine wpList_store_new rfl 31 _ _ rfl cs _ rfl rfl rfl (L1.out.trans HZ2.out.symm) I1.out O1.out ?_) | (refine wpList_load_big rfl 31 _ rfl w8.heap.size 0 rfl cs _ RA.out Try.underlying31 rfl I1.out ?_) | (refine wpList_load_big rfl 31 _ rfl w9.heap.size 0 rfl cs _ RB.out Try.underlying31 rfl I1.out ?_))
                      go_roundw
                      case rel =>
                        exact ⟨n + 1, by omega, by go_num, HCH.out.trans X9.out (fun _ h => h.elim)⟩
                      case measure => simp [intOf]; omega
                    · go_wp2
                      go_roundw
                      case rel =>
                        exact ⟨k + 1, _, _, _, F', by omega, by go_num, TX.out, HFW.out.put k E (by omega), YX.out, by omega⟩
                      case measure => simp [intOf]; omega
                  · go_wp2
                    go_roundw
                    case rel =>
                      exact ⟨k + 1, _, _, _, F', by omega, by go_num, TX.out, HFW.out.put k E (by omega), YX.out, by omega⟩
                    case measure => simp [intOf]; omega
            · go_wp2
              go_ret
              exact ⟨rfl, Chg.below HY.out (fun _ h => h) (Nat.le_refl _)⟩
end Go.Proofs.Ytihpobpkhhkejaa
