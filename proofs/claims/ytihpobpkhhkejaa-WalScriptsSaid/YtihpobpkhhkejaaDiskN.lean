/-
  What New makes of a number of sectors. No condition.
-/
import Derived.Test.YtihpobpkhhkejaaDiskS
set_option autoImplicit false
namespace Go.Proofs.Ytihpobpkhhkejaa
open Go Go.RowKit

def szOf (n : Int) : Int := if n < 0 then 0 else if n > 65536 then 65536 else n
def Dsk.new (n : Int) : Dsk := { size := szOf n, now := fun _ => sec0, kept := fun _ => sec0, wait := [], down := false, left := -1 }
theorem MapSec.empty : MapSec #[] (fun _ => sec0) := ⟨fun e he => by simp at he, fun k => by simp [mfind]⟩
theorem new_disk (n : Int) (w : World) : DiskIn (((w.alloc (.map #[] 0)).alloc (.map #[] 0)).alloc (.cells #[.int .i64 (szOf n), .map (some w.heap.size), .map (some (w.heap.size + 1)), .slice none 0 0, .bool false, .int .i64 (-1)] 91)) (w.heap.size + 2) (fun k => w.heap.size ≤ k) (Dsk.new n) w.heap.size (w.heap.size + 1) (.slice none 0 0) #[] #[] 0 0 := by
  refine ⟨?_, ?_, MapSec.empty, ?_, MapSec.empty, by omega, World.ownsRow_nil _ _ _ _, by omega, by omega, by omega, fun g hg => by simp [Value.ownBlock] at hg, ?_⟩
  · rw [show w.heap.size + 2 = ((w.alloc (.map #[] 0)).alloc (.map #[] 0)).heap.size from by simp]
    exact hal_new
  · rw [hal_old (by simp; omega), hal_old (by simp)]; exact hal_new
  · rw [hal_old (by simp)]
    have := hal_new (w := w.alloc (.map #[] 0)) (o := .map #[] 0)
    simpa using this
  · unfold Dsk.new Dsk.ok szOf
    refine ⟨?_, ?_, ?_, ?_, fun _ => sec0_len, fun _ => sec0_len, by simp⟩ <;> simp <;> (try split) <;> (try split) <;> omega
theorem new_any (n : Int) (w : World) : Calls Try.prog 15 #[.int .i64 n] w fun e w' => ∃ r, e = .returned (.pointer (some ⟨r, 0, none⟩)) ∧ DiskAt w' r (Ext (fun _ => False) w w') (Dsk.new n) ∧ Chg (fun _ => False) w w' := by
  have hn := new_disk n w
  have HN := Lib.hid hn
  clear hn
  have hc : Chg (fun _ => False) w (((w.alloc (.map #[] 0)).alloc (.map #[] 0)).alloc (.cells #[.int .i64 (szOf n), .map (some w.heap.size), .map (some (w.heap.size + 1)), .slice none 0 0, .bool false, .int .i64 (-1)] 91)) :=
    (((Chg.refl _ w).alloc _).alloc _).alloc _
  have HC := Lib.hid hc
  clear hc
  have hmm := @run_makeMap Try.prog
  have fin : ∀ z : Int, z = szOf n → ∀ r : Nat, r = w.heap.size + 2 → ∃ r' : Nat, Ending.returned (.pointer (some ⟨r, 0, none⟩)) = .returned (.pointer (some ⟨r', 0, none⟩)) ∧
      DiskAt (((w.alloc (.map #[] 0)).alloc (.map #[] 0)).alloc (.cells #[.int .i64 z, .map (some w.heap.size), .map (some (w.heap.size + 1)), .slice none 0 0, .bool false, .int .i64 (-1)] 91)) r' (Ext (fun _ => False) w (((w.alloc (.map #[] 0)).alloc (.map #[] 0)).alloc (.cells #[.int .i64 z, .map (some w.heap.size), .map (some (w.heap.size + 1)), .slice none 0 0, .bool false, .int .i64 (-1)] 91))) (Dsk.new n) ∧
      Chg (fun _ => False) w (((w.alloc (.map #[] 0)).alloc (.map #[] 0)).alloc (.cells #[.int .i64 z, .map (some w.heap.size), .map (some (w.heap.size + 1)), .slice none 0 0, .bool false, .int .i64 (-1)] 91)) := by
    intro z hz r hr
    subst hz; subst hr
    exact ⟨_, rfl, ⟨_, _, _, _, _, _, _, HN.out.mono (fun k hk hl => .inr ⟨hk, hl⟩)⟩, HC.out⟩
  have HF := Lib.hid fin
  clear fin
  by_cases h1 : n < 0
  · have hs : (0 : Int) = szOf n := by unfold szOf; rw [if_pos h1]
    have HS := Lib.hid hs
    clear hs
    go_enter Try.func15, Try.ntmps15
    go_wp2
    go_ret
    exact HF.out _ HS.out _ rfl
  · by_cases h2 : n > 65536
    · have hs : (65536 : Int) = szOf n := by unfold szOf; rw [if_neg h1, if_pos h2]
      have HS := Lib.hid hs
      clear hs
      go_enter Try.func15, Try.ntmps15
      go_wp2
      go_ret
      exact HF.out _ HS.out _ rfl
    · have hs : n = szOf n := by unfold szOf; rw [if_neg h1, if_neg h2]
      have HS := Lib.hid hs
      clear hs
      go_enter Try.func15, Try.ntmps15
      go_wp2
      go_ret
      exact HF.out _ HS.out _ rfl
end Go.Proofs.Ytihpobpkhhkejaa
