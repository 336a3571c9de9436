/-
  The document's small functions: is, flag, SameTable, may. No condition beyond each lemma's own.
-/
import Derived.Test.YtpiijcjbphpffaaCTake
import Derived.Test.YtpiijcjbphpffaaCRName
set_option autoImplicit false
namespace Go.Proofs.Ytpiijcjbphpffaa
open Go Go.RowKit

def isB (v : Val) (k : Int) : Bool := (v.kind == k) && okV v k
set_option maxRecDepth 100000 in
theorem is_at (v : Val) (k : Int) (w : World) (hk : k = 1 ∨ k = 2 ∨ k = 3) : Calls Try.prog 36 #[.agg #[.int .i64 v.kind, .int .i64 v.num, .string v.str], .int .i64 k] w fun e w' => e = .returned (.bool (isB v k)) ∧ w.alloc (.cells #[.int .i64 v.kind, .int .i64 v.num, .string v.str] 62) = w' := by
  rcases hk with rfl | rfl | rfl
  · by_cases h : v.kind = 1
    · have HB := Lib.hid (show isB v 1 = v.str.toList.isEmpty by unfold isB; rw [h, okV1 rfl]; rfl)
      go_enter Try.func36, Try.ntmps36
      go_wp2
      go_ret
      exact ⟨ret_bool HB.out.symm, by simp_all⟩
    · have HB := Lib.hid (show isB v 1 = false by unfold isB; rw [show (v.kind == 1) = false by simpa using h]; rfl)
      go_enter Try.func36, Try.ntmps36
      go_wp2
      go_ret
      exact ⟨ret_bool HB.out.symm, by simp_all⟩
  · by_cases h : v.kind = 2
    · have HB := Lib.hid (show isB v 2 = (v.str.toList.isEmpty && (v.num == 0 || v.num == 1)) by unfold isB; rw [h, show okV v 2 = ((v.str == ⟨#[]⟩) && (v.num == 0 || v.num == 1)) from rfl, ← show okV v 1 = (v.str == ⟨#[]⟩) from rfl, okV1 rfl]; rfl)
      go_enter Try.func36, Try.ntmps36
      go_wp2
      all_goals
        go_ret
        refine ⟨ret_bool ?_, by simp_all⟩
        rw [HB.out]
        simp_all
    · have HB := Lib.hid (show isB v 2 = false by unfold isB; rw [show (v.kind == 2) = false by simpa using h]; rfl)
      go_enter Try.func36, Try.ntmps36
      go_wp2
      go_ret
      exact ⟨ret_bool HB.out.symm, by simp_all⟩
  · by_cases h : v.kind = 3
    · have HB := Lib.hid (show isB v 3 = (v.num == 0) by unfold isB; rw [h]; rfl)
      go_enter Try.func36, Try.ntmps36
      go_wp2
      go_ret
      exact ⟨ret_bool HB.out.symm, by simp_all⟩
    · have HB := Lib.hid (show isB v 3 = false by unfold isB; rw [show (v.kind == 3) = false by simpa using h]; rfl)
      go_enter Try.func36, Try.ntmps36
      go_wp2
      go_ret
      exact ⟨ret_bool HB.out.symm, by simp_all⟩
theorem rflag_any (b : Bool) (w : World) : Calls Try.prog 46 #[.bool b] w fun e w' => e = .returned (valV (truthV b)) ∧ Chg (fun _ => False) w w' := by
  unfold valV truthV
  cases b
  · go_enter Try.func46, Try.ntmps46
    go_wp2
    refine bodyPost_ret (v := .agg #[.int .i64 2, .int .i64 0, .string ⟨#[]⟩]) (by simp [results, Try.results46, go_sem]) rfl ⟨rfl, ?_⟩
    exact (Chg.refl _ _).alloc _
  · go_enter Try.func46, Try.ntmps46
    go_wp2
    refine bodyPost_ret (v := .agg #[.int .i64 2, .int .i64 1, .string ⟨#[]⟩]) (by simp [results, Try.results46, go_sem]) rfl ⟨rfl, ?_⟩
    exact (Chg.refl _ _).alloc _
end Go.Proofs.Ytpiijcjbphpffaa
