/-
  What alike of the law of transactions answers. Conditions: two books that are alike, or none and none.
-/
import Derived.Test.YtkneldeemlngkaaMRCallF
import Derived.Test.YtkneldeemlngkaaMRCallB
set_option autoImplicit false
namespace Go.Proofs.Ytkneldeemlngkaa
open Go Go.RowKit

set_option maxRecDepth 100000 in
set_option maxHeartbeats 2000000 in
theorem alike_nil (t u : Int) (w : World) : Calls Try.prog 13 #[.pointer none, .pointer none, .int .i64 t, .int .i64 u] w fun e w' => e = .returned (.bool true) ∧ w = w' := by
  go_enter Try.func13, Try.ntmps13
  go_wp2_with fail
  refine (state_nil _ _).mono ?_
  rintro e w' ⟨rfl, rfl⟩
  go_wp2_with fail
  refine (rstate_nil _ _).mono ?_
  rintro e w' ⟨rfl, rfl⟩
  go_wp2_with fail
  refine (sees_nil _ _ _).mono ?_
  rintro e w' ⟨rfl, rfl⟩
  go_wp2_with fail
  refine (rsees_nil _ _ _).mono ?_
  rintro e w' ⟨rfl, rfl⟩
  go_wp2_with fail
  refine (sees_nil _ _ _).mono ?_
  rintro e w' ⟨rfl, rfl⟩
  go_wp2_with fail
  refine (rsees_nil _ _ _).mono ?_
  rintro e w' ⟨rfl, rfl⟩
  go_wp2_with fail
  refine (conc_nil _ _ _).mono ?_
  rintro e w' ⟨rfl, rfl⟩
  go_wp2_with fail
  refine (rconc_nil _ _ _).mono ?_
  rintro e w' ⟨rfl, rfl⟩
  go_wp2_with fail
  refine (version_nil _ _ _ _).mono ?_
  rintro e w' ⟨rfl, rfl⟩
  go_wp2_with fail
  refine (rversion_nil _ _ _ _).mono ?_
  rintro e w' ⟨rfl, rfl⟩
  go_wp2_with fail
  refine (version_nil _ _ _ _).mono ?_
  rintro e w' ⟨rfl, rfl⟩
  go_wp2_with fail
  refine (rversion_nil _ _ _ _).mono ?_
  rintro e w' ⟨rfl, rfl⟩
  go_wp2_with fail
  refine (version_nil _ _ _ _).mono ?_
  rintro e w' ⟨rfl, rfl⟩
  go_wp2_with fail
  refine (rversion_nil _ _ _ _).mono ?_
  rintro e w' ⟨rfl, rfl⟩
  go_wp2
  go_ret
  exact ⟨rfl, rfl⟩
set_option maxRecDepth 100000 in
set_option maxHeartbeats 2000000 in
theorem alike_any (b r : Nat) (Fb Fr : Nat → Prop) (B : Bk) (R : RBk) (w : World) (t u : Int) (hb : BookAt w b Fb B) (hr : RBookAt w r Fr R) (hrel : Rel B R) :
    Calls Try.prog 13 #[.pointer (some ⟨b, 0, none⟩), .pointer (some ⟨r, 0, none⟩), .int .i64 t, .int .i64 u] w fun e w' => e = .returned (.bool true) ∧ Chg (fun _ => False) w w' := by
  have HB := Lib.hid hb; have HR := Lib.hid hr; have HL := Lib.hid hrel
  have X0 := Lib.hid (Chg.refl (fun _ => False) w)
  clear hb hr hrel
  go_enter Try.func13, Try.ntmps13
  go_wp2_with fail
  refine (state_any b Fb B w t (HB.out.quiet X0.out)).mono ?_
  rintro e w1 ⟨rfl, x⟩
  have X1 := Lib.hid (X0.out.trans x (fun _ h => h.elim))
  clear x
  go_wp2_with fail
  refine (rstate_any r Fr R w1 t (HR.out.quiet X1.out)).mono ?_
  rintro e w2 ⟨rfl, x⟩
  rw [HL.out.state]
  have X2 := Lib.hid (X1.out.trans x (fun _ h => h.elim))
  clear x
  go_wp2_with fail
  refine (sees_any b Fb B w2 t u (HB.out.quiet X2.out)).mono ?_
  rintro e w3 ⟨rfl, x⟩
  have X3 := Lib.hid (X2.out.trans x (fun _ h => h.elim))
  clear x
  go_wp2_with fail
  refine (rsees_any r Fr R w3 t u (HR.out.quiet X3.out)).mono ?_
  rintro e w4 ⟨rfl, x⟩
  rw [HL.out.sees]
  have X4 := Lib.hid (X3.out.trans x (fun _ h => h.elim))
  clear x
  go_wp2_with fail
  refine (sees_any b Fb B w4 u t (HB.out.quiet X4.out)).mono ?_
  rintro e w5 ⟨rfl, x⟩
  have X5 := Lib.hid (X4.out.trans x (fun _ h => h.elim))
  clear x
  go_wp2_with fail
  refine (rsees_any r Fr R w5 u t (HR.out.quiet X5.out)).mono ?_
  rintro e w6 ⟨rfl, x⟩
  rw [HL.out.sees]
  have X6 := Lib.hid (X5.out.trans x (fun _ h => h.elim))
  clear x
  go_wp2_with fail
  refine (conc_any b Fb B w6 t u (HB.out.quiet X6.out)).mono ?_
  rintro e w7 ⟨rfl, x⟩
  have X7 := Lib.hid (X6.out.trans x (fun _ h => h.elim))
  clear x
  go_wp2_with fail
  refine (rconc_any r Fr R w7 t u (HR.out.quiet X7.out)).mono ?_
  rintro e w8 ⟨rfl, x⟩
  rw [HL.out.conc]
  have X8 := Lib.hid (X7.out.trans x (fun _ h => h.elim))
  clear x
  go_wp2_with fail
  refine (version_any b Fb B w8 t u 0 (HB.out.quiet X8.out)).mono ?_
  rintro e w9 ⟨rfl, x⟩
  have X9 := Lib.hid (X8.out.trans x (fun _ h => h.elim))
  clear x
  go_wp2_with fail
  refine (rversion_any r Fr R w9 t u 0 (HR.out.quiet X9.out)).mono ?_
  rintro e w10 ⟨rfl, x⟩
  rw [HL.out.vers]
  have X10 := Lib.hid (X9.out.trans x (fun _ h => h.elim))
  clear x
  go_wp2_with fail
  refine (version_any b Fb B w10 t 0 u (HB.out.quiet X10.out)).mono ?_
  rintro e w11 ⟨rfl, x⟩
  have X11 := Lib.hid (X10.out.trans x (fun _ h => h.elim))
  clear x
  go_wp2_with fail
  refine (rversion_any r Fr R w11 t 0 u (HR.out.quiet X11.out)).mono ?_
  rintro e w12 ⟨rfl, x⟩
  rw [HL.out.vers]
  have X12 := Lib.hid (X11.out.trans x (fun _ h => h.elim))
  clear x
  go_wp2_with fail
  refine (version_any b Fb B w12 t u _ (HB.out.quiet X12.out)).mono ?_
  rintro e w13 ⟨rfl, x⟩
  have X13 := Lib.hid (X12.out.trans x (fun _ h => h.elim))
  clear x
  go_wp2_with fail
  refine (rversion_any r Fr R w13 t u _ (HR.out.quiet X13.out)).mono ?_
  rintro e w14 ⟨rfl, x⟩
  rw [HL.out.vers]
  have X14 := Lib.hid (X13.out.trans x (fun _ h => h.elim))
  clear x
  go_wp2
  go_ret
  exact ⟨rfl, X14.out⟩
end Go.Proofs.Ytkneldeemlngkaa
