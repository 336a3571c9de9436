/-
  What the document's book answers: Concurrent, End. No condition beyond each lemma's own.
-/
import Derived.Test.YtkneldeemlngkaaMRCall
import Derived.Test.YtkneldeemlngkaaMBookD
set_option autoImplicit false
namespace Go.Proofs.Ytkneldeemlngkaa
open Go Go.RowKit

theorem rconc_nil (t u : Int) (w : World) : Calls Try.prog 28 #[.pointer none, .int .i64 t, .int .i64 u] w fun e w' => e = .returned (.bool false) ∧ w = w' := by
  go_enter Try.func28, Try.ntmps28
  go_wp2_with (go_at_call 26; refine (rstate_nil _ _).mono ?_; rintro e w' ⟨rfl, rfl⟩)
  all_goals go_ret
  all_goals exact ⟨rfl, rfl⟩
theorem on_iff {x : Int} : on x = true ↔ x = 1 ∨ x = 2 := by unfold on; simp
set_option maxRecDepth 100000 in
set_option maxHeartbeats 2000000 in
theorem rconc_any (r : Nat) (F : Nat → Prop) (R : RBk) (w : World) (t u : Int) (h : RBookAt w r F R) :
    Calls Try.prog 28 #[.pointer (some ⟨r, 0, none⟩), .int .i64 t, .int .i64 u] w fun e w' => e = .returned (.bool (R.conc t u)) ∧ Chg (fun _ => False) w w' := by
  have hst : ∀ x, R.conc t u = x → Hid (R.conc t u = x) := fun x h => Lib.hid h
  have HH := Lib.hid h
  clear h
  by_cases h1 : t = u
  · have HS := hst false (by unfold RBk.conc; rw [if_pos (.inl h1)])
    rw [HS.out]
    clear HS hst
    subst h1
    go_enter Try.func28, Try.ntmps28
    go_wp2_with fail
    refine (rstate_any r F R w t HH.out).mono ?_
    rintro e w1 ⟨rfl, x1⟩
    have X1 := Lib.hid x1
    clear x1
    go_wp2_with fail
    refine (rstate_any r F R w1 t (HH.out.quiet X1.out)).mono ?_
    rintro e w2 ⟨rfl, x2⟩
    have X2 := Lib.hid (X1.out.trans x2 (fun _ h => h.elim))
    clear x2
    go_wp2
    go_ret
    exact ⟨rfl, X2.out⟩
  · have q1 : (t == u) = false := by simpa using h1
    cases hx : on (R.state t) with
    | false =>
      obtain ⟨a1, a2⟩ := on_no hx
      have n1 : ¬ R.state t = 1 := by simpa using a1
      have n2 : ¬ R.state t = 2 := by simpa using a2
      have m1 : (R.state t != 1) = true := by simpa using n1
      have m2 : (R.state t != 2) = true := by simpa using n2
      have HS := hst false (by unfold RBk.conc; rw [if_pos (.inr (.inl (by simpa using And.intro a1 a2)))])
      rw [HS.out]
      clear HS hst hx h1
      go_enter Try.func28, Try.ntmps28
      go_wp2_with fail
      refine (rstate_any r F R w t HH.out).mono ?_
      rintro e w1 ⟨rfl, x1⟩
      have X1 := Lib.hid x1
      clear x1
      go_wp2_with fail
      refine (rstate_any r F R w1 u (HH.out.quiet X1.out)).mono ?_
      rintro e w2 ⟨rfl, x2⟩
      have X2 := Lib.hid (X1.out.trans x2 (fun _ h => h.elim))
      clear x2
      go_wp2
      go_ret
      exact ⟨rfl, X2.out⟩
    | true =>
      cases hy : on (R.state u) with
      | false =>
        obtain ⟨a1, a2⟩ := on_no hy
        have n1 : ¬ R.state u = 1 := by simpa using a1
        have n2 : ¬ R.state u = 2 := by simpa using a2
        have m1 : (R.state u != 1) = true := by simpa using n1
        have m2 : (R.state u != 2) = true := by simpa using n2
        have HS := hst false (by unfold RBk.conc; rw [if_pos (.inr (.inr (.inl (by simpa using And.intro a1 a2))))])
        rw [HS.out]
        clear HS hst hy h1
        rcases on_yes hx with hx1 | hx1
        all_goals
          have HX1 := Lib.hid hx1
          clear hx1
          go_enter Try.func28, Try.ntmps28
          go_wp2_with fail
          refine (rstate_any r F R w t HH.out).mono ?_
          rintro e w1 ⟨rfl, x1⟩
          rw [HX1.out]
          have X1 := Lib.hid x1
          clear x1
          go_wp2_with fail
          refine (rstate_any r F R w1 u (HH.out.quiet X1.out)).mono ?_
          rintro e w2 ⟨rfl, x2⟩
          have X2 := Lib.hid (X1.out.trans x2 (fun _ h => h.elim))
          clear x2
          go_wp2
          go_ret
          exact ⟨rfl, X2.out⟩
      | true =>
        have dt := RBk.state_in (R := R) (t := t) (by rcases on_yes hx with h | h <;> omega)
        have du := RBk.state_in (R := R) (t := u) (by rcases on_yes hy with h | h <;> omega)
        obtain ⟨k, rfl⟩ : ∃ k : Nat, t = k := ⟨t.toNat, by omega⟩
        obtain ⟨j, rfl⟩ : ∃ j : Nat, u = j := ⟨u.toNat, by omega⟩
        have hkl : k < R.l.length := by omega
        have hjl : j < R.l.length := by omega
        cases ho : (R.tx k).old with
        | true =>
          have HS := hst false (by unfold RBk.conc; rw [if_pos (.inr (.inr (.inr (.inl ho))))])
          rw [HS.out]
          clear HS hst h1
          rcases on_yes hx with hx1 | hx1 <;> rcases on_yes hy with hy1 | hy1
          all_goals
            have HX1 := Lib.hid hx1; have HY1 := Lib.hid hy1
            clear hx1 hy1
            go_enter Try.func28, Try.ntmps28
            go_wp2_with fail
            refine (rstate_any r F R w k HH.out).mono ?_
            rintro e w1 ⟨rfl, x1⟩
            rw [HX1.out]
            have X1 := Lib.hid x1
            clear x1
            go_wp2_with fail
            refine (rstate_any r F R w1 j (HH.out.quiet X1.out)).mono ?_
            rintro e w2 ⟨rfl, x2⟩
            rw [HY1.out]
            have X2 := Lib.hid (X1.out.trans x2 (fun _ h => h.elim))
            clear x2
            obtain ⟨g, cap, c0, c2, b1⟩ := (HH.out.quiet X2.out).oldAt hkl
            rw [ho] at c2
            generalize R.l.length = ln at *
            go_wp2
            go_ret
            exact ⟨rfl, X2.out⟩
        | false =>
          cases hp : (R.tx j).old with
          | true =>
            have HS := hst false (by unfold RBk.conc; rw [if_pos (.inr (.inr (.inr (.inr hp))))])
            rw [HS.out]
            clear HS hst h1
            rcases on_yes hx with hx1 | hx1 <;> rcases on_yes hy with hy1 | hy1
            all_goals
              have HX1 := Lib.hid hx1; have HY1 := Lib.hid hy1
              clear hx1 hy1
              go_enter Try.func28, Try.ntmps28
              go_wp2_with fail
              refine (rstate_any r F R w k HH.out).mono ?_
              rintro e w1 ⟨rfl, x1⟩
              rw [HX1.out]
              have X1 := Lib.hid x1
              clear x1
              go_wp2_with fail
              refine (rstate_any r F R w1 j (HH.out.quiet X1.out)).mono ?_
              rintro e w2 ⟨rfl, x2⟩
              rw [HY1.out]
              have X2 := Lib.hid (X1.out.trans x2 (fun _ h => h.elim))
              clear x2
              obtain ⟨g, cap, c0, c2, b1⟩ := (HH.out.quiet X2.out).oldAt hkl
              obtain ⟨g', cap', c0', c3, _⟩ := (HH.out.quiet X2.out).oldAt hjl
              obtain ⟨rfl, rfl⟩ : g' = g ∧ cap' = cap := by
                rw [c0] at c0'
                injection c0' with e1
                injection e1 with e2 e3 e4
                injection e2 with e5
                injection e5 with e6
                exact ⟨e6.symm, e4.symm⟩
              rw [ho] at c2
              rw [hp] at c3
              clear c0'
              generalize R.l.length = ln at *
              go_wp2
              go_ret
              exact ⟨rfl, X2.out⟩
          | false =>
            have HV := hst (!R.sees k j && !R.sees j k) (by
              unfold RBk.conc
              rw [if_neg]
              rintro (h | h | h | h | h)
              · exact h1 h
              · rcases on_yes hx with hh | hh <;> omega
              · rcases on_yes hy with hh | hh <;> omega
              · rw [ho] at h; cases h
              · rw [hp] at h; cases h)
            rw [HV.out]
            clear HV hst h1
            rcases on_yes hx with hx1 | hx1 <;> rcases on_yes hy with hy1 | hy1
            all_goals
              have HX1 := Lib.hid hx1; have HY1 := Lib.hid hy1
              clear hx1 hy1
              go_enter Try.func28, Try.ntmps28
              go_wp2_with fail
              refine (rstate_any r F R w k HH.out).mono ?_
              rintro e w1 ⟨rfl, x1⟩
              rw [HX1.out]
              have X1 := Lib.hid x1
              clear x1
              go_wp2_with fail
              refine (rstate_any r F R w1 j (HH.out.quiet X1.out)).mono ?_
              rintro e w2 ⟨rfl, x2⟩
              rw [HY1.out]
              have X2 := Lib.hid (X1.out.trans x2 (fun _ h => h.elim))
              clear x2
              obtain ⟨g, cap, c0, c2, b1⟩ := (HH.out.quiet X2.out).oldAt hkl
              obtain ⟨g', cap', c0', c3, _⟩ := (HH.out.quiet X2.out).oldAt hjl
              obtain ⟨rfl, rfl⟩ : g' = g ∧ cap' = cap := by
                rw [c0] at c0'
                injection c0' with e1
                injection e1 with e2 e3 e4
                injection e2 with e5
                injection e5 with e6
                exact ⟨e6.symm, e4.symm⟩
              rw [ho] at c2
              rw [hp] at c3
              clear c0'
              generalize R.l.length = ln at *
              go_wp2_with fail
              refine (rsees_any r F R w2 k j (HH.out.quiet X2.out)).mono ?_
              rintro e w3 ⟨rfl, x3⟩
              have X3 := Lib.hid (X2.out.trans x3 (fun _ h => h.elim))
              clear x3 c0 c2 c3
              cases hs : R.sees k j with
              | true =>
                have HS := Lib.hid hs
                clear hs
                go_wp2
                go_ret
                exact ⟨by rw [HS.out]; rfl, X3.out⟩
              | false =>
                have HS := Lib.hid hs
                clear hs
                go_wp2_with fail
                refine (rsees_any r F R w3 j k (HH.out.quiet X3.out)).mono ?_
                rintro e w4 ⟨rfl, x4⟩
                have X4 := Lib.hid (X3.out.trans x4 (fun _ h => h.elim))
                clear x4
                go_wp2
                go_ret
                exact ⟨by rw [HS.out]; rfl, X4.out⟩
theorem rend_nil (t s : Int) (w : World) : Calls Try.prog 15 #[.pointer none, .int .i64 t, .int .i64 s] w fun e w' => e = .returned (.int .i64 2) ∧ w = w' := by
  go_enter Try.func15, Try.ntmps15
  go_wp2
  go_ret
  exact ⟨rfl, rfl⟩
end Go.Proofs.Ytkneldeemlngkaa
