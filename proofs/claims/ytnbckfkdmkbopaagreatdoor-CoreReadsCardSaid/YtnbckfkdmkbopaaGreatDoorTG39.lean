/-
  The law's own look: is a condition read, bound, asked? Condition: the library's variables stand.
-/
import Derived.Test.YtnbckfkdmkbopaaGreatDoorTG38
import Derived.Test.YtnbckfkdmkbopaaGreatDoorTG26
set_option autoImplicit false
namespace Go.Proofs.YtnbckfkdmkbopaaGreatDoor
open Go Go.RowKit

def rtext : Str := [97, 32, 61, 32, 49, 32, 97, 110, 100, 32, 99, 32, 105, 115, 32, 110, 111, 116, 32, 110, 117, 108, 108]
def rx : Ex := .bin 16 (.bin 10 (.col [] [97]) (.val ⟨1, 1, []⟩)) (.un 19 (.col [] [99]))
def ry : Ex := .bin 16 (.bin 10 (.slot 1) (.val ⟨1, 1, []⟩)) (.un 19 (.slot 3))
def rrow : List Val := [Val.null, ⟨1, 1, []⟩, Val.null, ⟨3, 0, [120]⟩]
theorem rtext_asked : askedL rtext = some (rx, ry) := by kernel_rfl
theorem rrow_holds : holdsV rrow ry = (true, 0) := by kernel_rfl
theorem ry_ty : tyL cols4 ry = some 2 := by kernel_rfl
theorem rrow_ok : rowOk cols4 rrow := by
  refine ⟨rfl, fun i v c hv hc => ?_⟩
  match i, hv, hc with
  | 0, hv, hc => cases hv; cases hc; exact ⟨rfl, .inl rfl⟩
  | 1, hv, hc => cases hv; cases hc; exact ⟨rfl, .inr rfl⟩
  | 2, hv, hc => cases hv; cases hc; exact ⟨rfl, .inl rfl⟩
  | 3, hv, hc => cases hv; cases hc; exact ⟨rfl, .inr rfl⟩
  | n + 4, hv, _ => simp [rrow] at hv
set_option maxRecDepth 100000 in
set_option maxHeartbeats 2000000 in
theorem reads_any (w : World) (hg : Glob w) (h10 : 10 ≤ w.heap.size) : Calls Tryz.prog 5 #[] w fun e w' => e = .returned (.bool true) ∧ Chg NoB w w' := by
  have HA := Lib.hid (asked_any rtext w hg h10 (by decide))
  clear hg
  go_enter Tryz.func5, Tryz.ntmps5
  go_wp2_with fail
  refine HA.out.mono ?_
  rintro e w1 ⟨c1, A, B, rfl, hx⟩
  rw [rtext_asked]
  obtain ⟨_, hyB⟩ := hx rx ry rtext_asked
  have X1 := Lib.hid c1
  have XB := Lib.hid hyB
  clear c1 hx hyB
  go_wp2_with fail
  have HW : Hid (∀ o, Chg NoB w (((w1.alloc A.obj).alloc B.obj).alloc o)) := Lib.hid fun o => ((X1.out.alloc _).alloc _).alloc o
  refine (holds_any cols4 rrow rrow_ok _ _ ry 2 ry_ty (.inl rfl) B _ (fun _ => True) _ (XB.out.quiet (((Chg.refl _ _).alloc _).alloc _ |>.alloc _)) ⟨_, _, rfl, fun _ => ⟨_, 0, rfl, ?_, trivial, range_block (hal_new' (by simp))⟩⟩).mono ?_
  · simp
  rw [rrow_holds]
  rintro e w2 ⟨rfl, c2⟩
  have X2 := Lib.hid ((HW.out _).trans c2 (fun k h => h.elim))
  clear c2
  go_wp2_with fail
  go_ret
  exact ⟨rfl, X2.out⟩
end Go.Proofs.YtnbckfkdmkbopaaGreatDoor
