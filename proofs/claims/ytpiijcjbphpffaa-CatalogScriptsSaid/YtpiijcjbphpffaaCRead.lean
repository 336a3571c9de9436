/-
  What the reader's flag does. No condition beyond each lemma's own.
-/
import Derived.Test.YtpiijcjbphpffaaCReadL
import Derived.Test.YtpiijcjbphpffaaCRows
set_option autoImplicit false
namespace Go.Proofs.Ytpiijcjbphpffaa
open Go Go.RowKit

theorem take_any (b : Nat) (F : Nat → Prop) (R : Rd) (kind : Int) (w : World) (h : RdAt w F b R) (hF : ¬ F b) (hk3 : kind = 1 ∨ kind = 2 ∨ kind = 3) (hm : R.l.length ≤ 9223372036854775807) :
    Calls Try.prog 34 #[.pointer (some ⟨b, 0, none⟩), .int .i64 kind] w fun e w' => e = .returned (valV (R.take kind).1) ∧ RdAt w' F b (R.take kind).2 ∧ Chg (fun k => k = b) w w' := by
  obtain ⟨l, bad⟩ := R
  cases l with
  | nil => exact take_none b F ⟨[], bad⟩ kind w h rfl
  | cons v l =>
    simp only [List.length_cons] at hm
    by_cases hk : v.kind = kind
    · have e : (Rd.mk (v :: l) bad).take kind = (v, ⟨l, bad || !okV v kind⟩) := by unfold Rd.take; simp [hk]
      rw [e]
      exact take_this b F v l bad kind w h hF hk hk3 (by omega)
    · have e : (Rd.mk (v :: l) bad).take kind = (val0, ⟨[], true⟩) := by unfold Rd.take; simp [hk]
      rw [e]
      exact take_other b F v l bad kind w h hk (by omega)
theorem field_val0 (a b : Int) (s : ByteArray) (w : World) : (Instr.field 62 (.agg #[.int .i64 a, .int .i64 b, .string s]) 0).run Try.prog w = .ok (.int .i64 a) w := by kernel_rfl
theorem field_val1 (a b : Int) (s : ByteArray) (w : World) : (Instr.field 62 (.agg #[.int .i64 a, .int .i64 b, .string s]) 1).run Try.prog w = .ok (.int .i64 b) w := by kernel_rfl
theorem field_val2 (a b : Int) (s : ByteArray) (w : World) : (Instr.field 62 (.agg #[.int .i64 a, .int .i64 b, .string s]) 2).run Try.prog w = .ok (.string s) w := by kernel_rfl
attribute [local go_sem] field_val0 field_val1 field_val2
theorem flag_any (b : Nat) (F : Nat → Prop) (R : Rd) (w : World) (h : RdAt w F b R) (hF : ¬ F b) (hm : R.l.length ≤ 9223372036854775807) :
    Calls Try.prog 33 #[.pointer (some ⟨b, 0, none⟩)] w fun e w' => e = .returned (.bool ((R.take 2).1.num == 1)) ∧ RdAt w' F b (R.take 2).2 ∧ Chg (fun k => k = b) w w' := by
  have HH := Lib.hid h
  clear h
  go_enter Try.func33, Try.ntmps33
  go_wp2_with fail
  refine (take_any b F R 2 w HH.out hF (by omega) hm).mono ?_
  unfold valV
  rintro e w' ⟨rfl, h1, x1⟩
  have H1 := Lib.hid h1; have X1 := Lib.hid x1
  clear h1 x1
  go_wp2
  go_ret
  exact ⟨rfl, H1.out, X1.out⟩
end Go.Proofs.Ytpiijcjbphpffaa
