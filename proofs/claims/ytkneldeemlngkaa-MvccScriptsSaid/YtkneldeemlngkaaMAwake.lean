/-
  The walk of awake of the laws of the book of transactions: it returns true. No condition.
-/
import Derived.Test.YtkneldeemlngkaaMNewB
set_option autoImplicit false
namespace Go.Proofs.Ytkneldeemlngkaa
open Go Go.RowKit

def noV (_ : Nat) : Int := 0
theorem rd_none (w : World) (V : Nat → Nat → Value) (sz : Nat) : SlRd w none 0 sz V := fun h => absurd h (by omega)
theorem newOk_none (mo : Int) (h0 : 0 ≤ mo) (h1 : mo ≤ 16777216) : NewOk 1 mo noV 0 := ⟨Int.le_refl _, h0, h1, by omega, fun i hi => by omega⟩
def awB : Bk := ((((Bk.start 1 9 noV 0).begin).begin).endB 1 2).begin
theorem ext_quiet {w w1 w2 : World} (x : Chg (fun _ => False) w w1) (y : Chg (Ext (fun _ => False) w w1) w1 w2) : Chg (fun _ => False) w w2 :=
  x.trans y (fun k hk => .inr (hk.elim (fun h => h.elim) (fun h => h.1)))
set_option maxRecDepth 100000 in
theorem awake19 (w : World) : Calls Try.prog 5 #[] w fun e w' => e = .returned (.bool true) ∧ Chg (fun _ => False) w w' := by
  go_enter Try.func5, Try.ntmps5
  go_wp2_with fail
  refine (new_ok 1 9 none 0 0 noV w (by omega) (rd_none _ _ _) (newOk_none 9 (by decide) (by decide))).mono ?_
  rintro e w1 ⟨r, rfl, b1, x1⟩
  have B1 := Lib.hid b1; have X1 := Lib.hid x1
  clear b1 x1
  go_wp2_with fail
  refine (begin_ok r _ _ w1 B1.out (by decide) (by decide)).mono ?_
  rintro e w2 ⟨rfl, b2, x2⟩
  have B2 := Lib.hid b2; have X2 := Lib.hid (ext_quiet X1.out x2)
  have Y2 := Lib.hid x2
  clear b2 x2
  go_wp2_with fail
  refine (begin_ok r _ _ w2 B2.out (by decide) (by decide)).mono ?_
  rintro e w3 ⟨rfl, b3, x3⟩
  have B3 := Lib.hid b3; have Y3 := Lib.hid (Y2.out.trans x3 (fun _ h => .inl h))
  clear b3 x3
  go_wp2_with fail
  refine (commit_any r _ _ w3 1 B3.out (by decide)).mono ?_
  rintro e w4 ⟨rfl, b4, x4⟩
  have B4 := Lib.hid b4; have Y4 := Lib.hid (Y3.out.trans x4 (fun _ h => .inl h))
  clear b4 x4
  rw [show Bk.endR _ 1 = 0 from by decide]
  go_wp2_with fail
  refine (begin_ok r _ _ w4 B4.out (by decide) (by decide)).mono ?_
  rintro e w5 ⟨rfl, b5, x5⟩
  have B5 := Lib.hid b5; have Y5 := Lib.hid (ext_quiet X1.out (Y4.out.trans x5 (fun _ h => .inl h)))
  clear b5 x5
  go_wp2_with fail
  refine (sees_any r _ _ w5 2 1 B5.out).mono ?_
  rintro e w6 ⟨rfl, x6⟩
  have X6 := Lib.hid x6
  clear x6
  rw [show Bk.sees _ 2 1 = false from by decide]
  go_wp2_with fail
  refine (sees_any r _ _ w6 3 1 (B5.out.quiet X6.out)).mono ?_
  rintro e w7 ⟨rfl, x7⟩
  have X7 := Lib.hid (X6.out.trans x7 (fun _ h => h.elim))
  clear x7
  rw [show Bk.sees _ 3 1 = true from by decide]
  go_wp2_with fail
  refine (conc_any r _ _ w7 1 2 (B5.out.quiet X7.out)).mono ?_
  rintro e w8 ⟨rfl, x8⟩
  have X8 := Lib.hid (X7.out.trans x8 (fun _ h => h.elim))
  clear x8
  rw [show Bk.conc _ 1 2 = true from by decide]
  go_wp2_with fail
  refine (conc_any r _ _ w8 1 3 (B5.out.quiet X8.out)).mono ?_
  rintro e w9 ⟨rfl, x9⟩
  have X9 := Lib.hid (X8.out.trans x9 (fun _ h => h.elim))
  clear x9
  rw [show Bk.conc _ 1 3 = false from by decide]
  go_wp2_with fail
  refine (version_any r _ _ w9 3 1 2 (B5.out.quiet X9.out)).mono ?_
  rintro e wa ⟨rfl, xa⟩
  have XA := Lib.hid (X9.out.trans xa (fun _ h => h.elim))
  clear xa
  rw [show Bk.vers _ 3 1 2 = true from by decide]
  go_wp2
  go_ret
  exact ⟨rfl, Y5.out.trans XA.out (fun _ h => h.elim)⟩
end Go.Proofs.Ytkneldeemlngkaa
