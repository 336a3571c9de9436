/-
  What the document's book answers: State, Sees, Version, Concurrent. No condition beyond each lemma's own.
-/
import Derived.Test.YtkneldeemlngkaaMRBook
set_option autoImplicit false
namespace Go.Proofs.Ytkneldeemlngkaa
open Go Go.RowKit

theorem rstate_nil (t : Int) (w : World) : Calls Try.prog 26 #[.pointer none, .int .i64 t] w fun e w' => e = .returned (.int .i64 0) ∧ w = w' := by
  go_enter Try.func26, Try.ntmps26
  go_wp2
  go_ret
  exact ⟨rfl, rfl⟩
set_option maxRecDepth 100000 in
theorem rstate_any (r : Nat) (F : Nat → Prop) (R : RBk) (w : World) (t : Int) (h : RBookAt w r F R) :
    Calls Try.prog 26 #[.pointer (some ⟨r, 0, none⟩), .int .i64 t] w fun e w' => e = .returned (.int .i64 (R.state t)) ∧ Chg (fun _ => False) w w' := by
  obtain ⟨v, us, h⟩ := h
  have hok := h.ok
  obtain ⟨g, cap, rfl, c0, c1, hat⟩ := h.read
  have b1 : (R.l.length : Int) ≤ 16777217 := by have := hok.n2; have := hok.m1; omega
  by_cases h1 : t < 0
  · have HS := Lib.hid (show R.state t = 0 by unfold RBk.state; rw [if_pos (.inl h1)])
    rw [HS.out]
    clear HS h hat hok
    generalize R.l.length = n at *
    go_enter Try.func26, Try.ntmps26
    go_wp2
    go_ret
    exact ⟨rfl, Chg.refl _ _⟩
  · by_cases h2 : (R.l.length : Int) ≤ t
    · have HS := Lib.hid (show R.state t = 0 by unfold RBk.state; rw [if_pos (.inr h2)])
      rw [HS.out]
      clear HS h hat hok
      generalize R.l.length = n at *
      go_enter Try.func26, Try.ntmps26
      go_wp2
      go_ret
      exact ⟨rfl, Chg.refl _ _⟩
    · obtain ⟨k, rfl⟩ : ∃ k : Nat, t = k := ⟨t.toNat, by omega⟩
      obtain ⟨sv, q0, q1, q2, _, _⟩ := hat k (by omega)
      have HS := Lib.hid (show R.state k = (R.tx k).st from RBk.tx_state _ (by omega) (by omega))
      rw [HS.out]
      clear HS h hat hok q1 q2
      generalize (R.tx k).st = s at *
      generalize R.l.length = n at *
      go_enter Try.func26, Try.ntmps26
      go_wp2
      go_ret
      exact ⟨rfl, Chg.refl _ _⟩
theorem rsees_nil (t u : Int) (w : World) : Calls Try.prog 27 #[.pointer none, .int .i64 t, .int .i64 u] w fun e w' => e = .returned (.bool false) ∧ w = w' := by
  go_enter Try.func27, Try.ntmps27
  go_wp2_with (go_at_call 26; refine (rstate_nil _ _).mono ?_; rintro e w' ⟨rfl, rfl⟩)
  go_ret
  exact ⟨rfl, rfl⟩
theorem saw_in {x : TxA} {u : Int} (h0 : 0 ≤ u) (h : u < x.seen.length) : x.saw u = (x.seen[u.toNat]'(by omega)) := by
  unfold TxA.saw
  rw [decide_eq_true h, Bool.true_and, List.getElem?_eq_getElem (by omega)]
  rfl
theorem saw_out {x : TxA} {u : Int} (h : ¬ u < x.seen.length) : x.saw u = false := by
  unfold TxA.saw
  rw [decide_eq_false h, Bool.false_and]
set_option maxRecDepth 100000 in
set_option maxHeartbeats 1000000 in
theorem rsees_any (r : Nat) (F : Nat → Prop) (R : RBk) (w : World) (t u : Int) (h : RBookAt w r F R) :
    Calls Try.prog 27 #[.pointer (some ⟨r, 0, none⟩), .int .i64 t, .int .i64 u] w fun e w' => e = .returned (.bool (R.sees t u)) ∧ Chg (fun _ => False) w w' := by
  have HR := Lib.hid h
  clear h
  by_cases z1 : R.state t = 0
  · have HS := Lib.hid (show R.sees t u = false by unfold RBk.sees; rw [if_pos (.inl z1)])
    rw [HS.out]
    have Z1 := Lib.hid z1
    clear HS z1
    go_enter Try.func27, Try.ntmps27
    go_wp2_with fail
    refine (rstate_any r F R w t HR.out).mono ?_
    rintro e w1 ⟨rfl, x1⟩
    rw [Z1.out]
    have X1 := Lib.hid x1
    clear x1
    go_wp2
    go_ret
    exact ⟨rfl, X1.out⟩
  · by_cases z2 : R.state u = 0
    · have HS := Lib.hid (show R.sees t u = false by unfold RBk.sees; rw [if_pos (.inr (.inl z2))])
      rw [HS.out]
      have Z2 := Lib.hid z2
      clear HS z2
      go_enter Try.func27, Try.ntmps27
      go_wp2_with fail
      refine (rstate_any r F R w t HR.out).mono ?_
      rintro e w1 ⟨rfl, x1⟩
      have H1 := Lib.hid (HR.out.quiet x1)
      have X1 := Lib.hid x1
      clear x1
      generalize R.state t = s1 at *
      go_wp2_with fail
      refine (rstate_any r F R w1 u H1.out).mono ?_
      rintro e w2 ⟨rfl, x2⟩
      rw [Z2.out]
      have X2 := Lib.hid (X1.out.trans x2 (fun _ h => h.elim))
      clear x2
      go_wp2
      go_ret
      exact ⟨rfl, X2.out⟩
    · have dt := RBk.state_in z1
      have du := RBk.state_in z2
      obtain ⟨k, rfl⟩ : ∃ k : Nat, t = k := ⟨t.toNat, by omega⟩
      obtain ⟨j, rfl⟩ : ∃ j : Nat, u = j := ⟨u.toNat, by omega⟩
      have hb := HR.out.ok
      have b1 : (R.l.length : Int) ≤ 16777217 := by have := hb.n2; have := hb.m1; omega
      have hkl : k < R.l.length := by omega
      have hsn : ∀ b, R.sees k j = b → Hid (R.sees k j = b) := fun _ h => Lib.hid h
      go_enter Try.func27, Try.ntmps27
      go_wp2_with fail
      refine (rstate_any r F R w k HR.out).mono ?_
      rintro e w1 ⟨rfl, x1⟩
      have H1 := Lib.hid (HR.out.quiet x1)
      have X1 := Lib.hid x1
      clear x1
      obtain ⟨s1, hs1⟩ : ∃ s, R.state k = s := ⟨_, rfl⟩
      rw [hs1]
      have z1' : (s1 == 0) = false := by rw [← hs1]; simpa using z1
      go_wp2_with fail
      refine (rstate_any r F R w1 j H1.out).mono ?_
      rintro e w2 ⟨rfl, x2⟩
      obtain ⟨v, us, h2⟩ := H1.out.quiet x2
      have X2 := Lib.hid (X1.out.trans x2 (fun _ h => h.elim))
      obtain ⟨s2, hs2⟩ : ∃ s, R.state j = s := ⟨_, rfl⟩
      rw [hs2]
      have z2' : (s2 == 0) = false := by rw [← hs2]; simpa using z2
      obtain ⟨g, cap, rfl, c0, c1, hat⟩ := h2.read
      obtain ⟨sv, q0, q1, q2, ⟨ao, c, rfl, hsv⟩, hsl⟩ := hat k hkl
      clear x2 hat
      cases ho : (R.tx k).old with
      | true =>
        have HS := hsn false (by unfold RBk.sees; rw [if_pos (.inr (.inr ho))])
        rw [ho] at q2
        clear hsn hsv q0 q1
        generalize R.l.length = n at *
        go_wp2
        go_ret
        exact ⟨by rw [HS.out]; rfl, X2.out⟩
      | false =>
        have e0 : R.sees k j = (decide ((k : Int) = j) || (R.tx k).saw j) := by
          unfold RBk.sees
          rw [if_neg (by rw [ho]; simp [z1, z2])]
        rw [ho] at q2
        by_cases hkj : k = j
        · subst hkj
          have HS := hsn true (by rw [e0]; simp)
          clear hsn hsv q0 q1 e0
          generalize R.l.length = n at *
          go_wp2
          go_ret
          exact ⟨by rw [HS.out]; rfl, X2.out⟩
        · have hd : decide ((k : Int) = j) = false := decide_eq_false (by omega)
          have hkb : ((k : Int) == (j : Int)) = false := beq_eq_false_iff_ne.2 (by omega)
          by_cases hj : j < (R.tx k).seen.length
          · obtain ⟨b, o, rfl, hbl, _, hc⟩ := hsv (by omega)
            have hcj := hc j _ (List.getElem?_eq_getElem hj)
            have HS := hsn ((R.tx k).seen[j]'hj) (by rw [e0, hd, saw_in (by omega) (by omega)]; simp)
            clear hsn q0 e0 hc
            generalize (R.tx k).seen[j]'hj = bb at *
            generalize (R.tx k).seen.length = sl at *
            generalize R.l.length = n at *
            go_wp2
            go_ret
            exact ⟨by rw [HS.out]; rfl, X2.out⟩
          · have HS := hsn false (by rw [e0, hd, saw_out (by omega)]; rfl)
            clear hsn hsv q0 e0
            generalize (R.tx k).seen.length = sl at *
            generalize R.l.length = n at *
            go_wp2
            go_ret
            exact ⟨by rw [HS.out]; rfl, X2.out⟩
theorem rversion_nil (t m k : Int) (w : World) : Calls Try.prog 29 #[.pointer none, .int .i64 t, .int .i64 m, .int .i64 k] w fun e w' => e = .returned (.bool false) ∧ w = w' := by
  go_enter Try.func29, Try.ntmps29
  go_wp2_with (go_at_call 26; refine (rstate_nil _ _).mono ?_; rintro e w' ⟨rfl, rfl⟩)
  go_ret
  exact ⟨rfl, rfl⟩
/-- what is read of one that is there -/
theorem RBookAt.oldAt {r : Nat} {F : Nat → Prop} {R : RBk} {w : World} (h : RBookAt w r F R) {k : Nat} (hk : k < R.l.length) :
    ∃ g cap, w.cell? ⟨r, 0, none⟩ = some (.slice (some ⟨g, 0, none⟩) R.l.length cap) ∧ w.cell? ⟨g, k * 3 + 2, none⟩ = some (.bool (R.tx k).old) ∧ (R.l.length : Int) ≤ 16777217 := by
  have hb := h.ok
  obtain ⟨v, us, h⟩ := h
  obtain ⟨g, cap, rfl, c0, c1, hat⟩ := h.read
  obtain ⟨sv, q0, q1, q2, _⟩ := hat k hk
  exact ⟨g, cap, c0, q2, by have := hb.n2; have := hb.m1; omega⟩
set_option maxRecDepth 100000 in
set_option maxHeartbeats 1000000 in
theorem rversion_any (r : Nat) (F : Nat → Prop) (R : RBk) (w : World) (t m k : Int) (h : RBookAt w r F R) :
    Calls Try.prog 29 #[.pointer (some ⟨r, 0, none⟩), .int .i64 t, .int .i64 m, .int .i64 k] w fun e w' => e = .returned (.bool (R.vers t m k)) ∧ Chg (fun _ => False) w w' := by
  have hst : ∀ x, R.vers t m k = x → Hid (R.vers t m k = x) := fun x h => Lib.hid h
  have HH := Lib.hid h
  clear h
  by_cases h1 : R.state t = 0
  · have HS := hst false (by unfold RBk.vers; rw [if_pos (.inl h1)])
    have H1 := Lib.hid h1
    rw [HS.out]
    clear HS hst h1
    go_enter Try.func29, Try.ntmps29
    go_wp2_with fail
    refine (rstate_any r F R w t HH.out).mono ?_
    rintro e w1 ⟨rfl, x1⟩
    rw [H1.out]
    have X1 := Lib.hid x1
    clear x1
    go_wp2
    go_ret
    exact ⟨rfl, X1.out⟩
  · have n1 : (R.state t == 0) = false := by simpa using h1
    have dt := RBk.state_in h1
    obtain ⟨q, rfl⟩ : ∃ q : Nat, t = q := ⟨t.toNat, by omega⟩
    have hql : q < R.l.length := by omega
    cases h3 : (R.tx q).old with
    | true =>
      have HS := hst false (by unfold RBk.vers; rw [if_pos (.inr h3)])
      rw [HS.out]
      clear HS hst h1
      go_enter Try.func29, Try.ntmps29
      go_wp2_with fail
      refine (rstate_any r F R w q HH.out).mono ?_
      rintro e w1 ⟨rfl, x1⟩
      have X1 := Lib.hid x1
      clear x1
      obtain ⟨g, cap, c0, c2, b1⟩ := (HH.out.quiet X1.out).oldAt hql
      rw [h3] at c2
      generalize R.l.length = ln at *
      go_wp2
      go_ret
      exact ⟨rfl, X1.out⟩
    | false =>
      have HV := hst ((decide (m = 0) || R.sees q m) && !R.sees q k) (by unfold RBk.vers; rw [if_neg (by rw [h3]; simp [h1])])
      rw [HV.out]
      clear HV hst h1
      go_enter Try.func29, Try.ntmps29
      go_wp2_with fail
      refine (rstate_any r F R w q HH.out).mono ?_
      rintro e w1 ⟨rfl, x1⟩
      have X1 := Lib.hid x1
      clear x1
      obtain ⟨g, cap, c0, c2, b1⟩ := (HH.out.quiet X1.out).oldAt hql
      rw [h3] at c2
      generalize R.l.length = ln at *
      by_cases hm : m = 0
      · subst hm
        go_wp2_with fail
        refine (rsees_any r F R w1 q k (HH.out.quiet X1.out)).mono ?_
        rintro e w2 ⟨rfl, x2⟩
        have X2 := Lib.hid (X1.out.trans x2 (fun _ h => h.elim))
        clear x2 c0 c2
        go_wp2
        go_ret
        exact ⟨by simp, X2.out⟩
      · have qm : (m == 0) = false := by simpa using hm
        have qd : decide (m = 0) = false := decide_eq_false hm
        go_wp2_with fail
        refine (rsees_any r F R w1 q m (HH.out.quiet X1.out)).mono ?_
        rintro e w2 ⟨rfl, x2⟩
        have X2 := Lib.hid (X1.out.trans x2 (fun _ h => h.elim))
        clear x2 c0 c2
        cases hs : R.sees q m with
        | false =>
          have HS := Lib.hid hs
          clear hs
          go_wp2
          go_ret
          exact ⟨by rw [HS.out, qd]; rfl, X2.out⟩
        | true =>
          have HS := Lib.hid hs
          clear hs
          go_wp2_with fail
          refine (rsees_any r F R w2 q k (HH.out.quiet X2.out)).mono ?_
          rintro e w3 ⟨rfl, x3⟩
          have X3 := Lib.hid (X2.out.trans x3 (fun _ h => h.elim))
          clear x3
          go_wp2
          go_ret
          exact ⟨by rw [HS.out, qd]; rfl, X3.out⟩
end Go.Proofs.Ytkneldeemlngkaa
