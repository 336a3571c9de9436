/-
  What Version and Concurrent of the book of transactions tell. No condition beyond each lemma's own.
-/
import Derived.Test.YtkneldeemlngkaaMBookC
set_option autoImplicit false
namespace Go.Proofs.Ytkneldeemlngkaa
open Go Go.RowKit

def Bk.vers (B : Bk) (t m k : Int) : Bool := if B.state t = 0 ∨ t < B.first then false else ((m == 0 || B.sees t m) && !B.sees t k)
theorem version_nil (t m k : Int) (w : World) : Calls Try.prog 10 #[.pointer none, .int .i64 t, .int .i64 m, .int .i64 k] w fun e w' => e = .returned (.bool false) ∧ w = w' := by
  go_enter Try.func10, Try.ntmps10
  go_wp2_with (go_at_call 25; refine (state_nil _ _).mono ?_; rintro e w' ⟨rfl, rfl⟩)
  go_ret
  exact ⟨rfl, rfl⟩
set_option maxRecDepth 100000 in
theorem version_any (r : Nat) (F : Nat → Prop) (B : Bk) (w : World) (t m k : Int) (h : BookAt w r F B) :
    Calls Try.prog 10 #[.pointer (some ⟨r, 0, none⟩), .int .i64 t, .int .i64 m, .int .i64 k] w fun e w' => e = .returned (.bool (B.vers t m k)) ∧ Chg (fun _ => False) w w' := by
  have hst : ∀ x, B.vers t m k = x → Hid (B.vers t m k = x) := fun x h => Lib.hid h
  have HH := Lib.hid h
  clear h
  by_cases h1 : B.state t = 0
  · have HS := hst false (by unfold Bk.vers; rw [if_pos (.inl h1)])
    have H1 := Lib.hid h1
    rw [HS.out]
    clear HS hst h1
    go_enter Try.func10, Try.ntmps10
    go_wp2_with fail
    refine (state_any r F B w t HH.out).mono ?_
    rintro e w1 ⟨rfl, x1⟩
    rw [H1.out]
    have X1 := Lib.hid x1
    clear x1
    go_wp2
    go_ret
    exact ⟨rfl, X1.out⟩
  · have n1 : (B.state t == 0) = false := by simpa using h1
    by_cases h3 : t < B.first
    · have HS := hst false (by unfold Bk.vers; rw [if_pos (.inr h3)])
      rw [HS.out]
      clear HS hst h1
      go_enter Try.func10, Try.ntmps10
      go_wp2_with fail
      refine (state_any r F B w t HH.out).mono ?_
      rintro e w1 ⟨rfl, x1⟩
      have X1 := Lib.hid x1
      clear x1
      obtain ⟨mb, es, c, hb⟩ := HH.out.quiet X1.out
      have c4 := hb.cells.2.2.2.2.1
      clear hb
      go_wp2
      go_ret
      exact ⟨rfl, X1.out⟩
    · have HV := hst ((m == 0 || B.sees t m) && !B.sees t k) (by unfold Bk.vers; rw [if_neg (by rintro (h | h) <;> contradiction)])
      rw [HV.out]
      clear HV hst h1
      go_enter Try.func10, Try.ntmps10
      go_wp2_with fail
      refine (state_any r F B w t HH.out).mono ?_
      rintro e w1 ⟨rfl, x1⟩
      have X1 := Lib.hid x1
      clear x1
      obtain ⟨mb, es, c, hb⟩ := HH.out.quiet X1.out
      have c4 := hb.cells.2.2.2.2.1
      clear hb
      by_cases hm : m = 0
      · subst hm
        go_wp2_with fail
        refine (sees_any r F B w1 t k (HH.out.quiet X1.out)).mono ?_
        rintro e w2 ⟨rfl, x2⟩
        have X2 := Lib.hid (X1.out.trans x2 (fun _ h => h.elim))
        clear x2 c4
        go_wp2
        go_ret
        exact ⟨by simp, X2.out⟩
      · have qm : (m == 0) = false := by simpa using hm
        go_wp2_with fail
        refine (sees_any r F B w1 t m (HH.out.quiet X1.out)).mono ?_
        rintro e w2 ⟨rfl, x2⟩
        have X2 := Lib.hid (X1.out.trans x2 (fun _ h => h.elim))
        clear x2 c4
        cases hs : B.sees t m with
        | false =>
          have HS := Lib.hid hs
          clear hs
          go_wp2
          go_ret
          exact ⟨by rw [HS.out, qm]; rfl, X2.out⟩
        | true =>
          have HS := Lib.hid hs
          clear hs
          go_wp2_with fail
          refine (sees_any r F B w2 t k (HH.out.quiet X2.out)).mono ?_
          rintro e w3 ⟨rfl, x3⟩
          have X3 := Lib.hid (X2.out.trans x3 (fun _ h => h.elim))
          clear x3
          go_wp2
          go_ret
          exact ⟨by rw [HS.out, qm]; rfl, X3.out⟩
/-! who is beside whom -/
def on (x : Int) : Bool := x == 1 || x == 2
def Bk.conc (B : Bk) (t u : Int) : Bool := if t = u ∨ min t u < B.first then false else (on (B.state t) && on (B.state u) && !B.sees t u && !B.sees u t)
theorem conc_nil (t u : Int) (w : World) : Calls Try.prog 21 #[.pointer none, .int .i64 t, .int .i64 u] w fun e w' => e = .returned (.bool false) ∧ w = w' := by
  go_enter Try.func21, Try.ntmps21
  go_wp2
  go_ret
  exact ⟨rfl, rfl⟩
theorem on_no {x : Int} (h : on x = false) : (x == 1) = false ∧ (x == 2) = false := by
  unfold on at h
  simpa using h
theorem on_yes {x : Int} (h : on x = true) : x = 1 ∨ x = 2 := by
  unfold on at h
  simpa using h
set_option maxRecDepth 100000 in
set_option maxHeartbeats 2000000 in
theorem conc_any (r : Nat) (F : Nat → Prop) (B : Bk) (w : World) (t u : Int) (h : BookAt w r F B) :
    Calls Try.prog 21 #[.pointer (some ⟨r, 0, none⟩), .int .i64 t, .int .i64 u] w fun e w' => e = .returned (.bool (B.conc t u)) ∧ Chg (fun _ => False) w w' := by
  have hst : ∀ x, B.conc t u = x → Hid (B.conc t u = x) := fun x h => Lib.hid h
  have HH := Lib.hid h
  obtain ⟨mb, es, c, hb⟩ := h
  have c4 := hb.cells.2.2.2.2.1
  clear hb
  by_cases h1 : t = u
  · have HS := hst false (by unfold Bk.conc; rw [if_pos (.inl h1)])
    rw [HS.out]
    clear HS hst
    subst h1
    go_enter Try.func21, Try.ntmps21
    go_wp2
    go_ret
    exact ⟨rfl, Chg.refl _ _⟩
  · have q1 : (t == u) = false := by simpa using h1
    rcases Int.lt_or_le u t with htu | htu
    all_goals
     by_cases h3 : (if u < t then u else t) < B.first
     · have HS := hst false (by unfold Bk.conc; rw [if_pos (.inr (by revert h3; split <;> omega))])
       first | rw [if_pos htu] at h3 | rw [if_neg (Int.not_lt.2 htu)] at h3
       rw [HS.out]
       clear HS hst h1
       go_enter Try.func21, Try.ntmps21
       go_wp2
       go_ret
       exact ⟨rfl, Chg.refl _ _⟩
     · have HV := hst (on (B.state t) && on (B.state u) && !B.sees t u && !B.sees u t) (by unfold Bk.conc; rw [if_neg (by rintro (h | h) <;> first | exact h1 h | (revert h3; split <;> omega))])
       rw [HV.out]
       clear HV hst h1
       first | rw [if_pos htu] at h3 | rw [if_neg (Int.not_lt.2 htu)] at h3
       cases hx : on (B.state t) with
       | false =>
         obtain ⟨a1, a2⟩ := on_no hx
         have HX := Lib.hid hx
         clear hx
         go_enter Try.func21, Try.ntmps21
         go_wp2_with fail
         refine (state_any r F B w t HH.out).mono ?_
         rintro e w1 ⟨rfl, x1⟩
         have X1 := Lib.hid x1
         clear x1
         go_wp2_with fail
         refine (state_any r F B w1 u (HH.out.quiet X1.out)).mono ?_
         rintro e w2 ⟨rfl, x2⟩
         have X2 := Lib.hid (X1.out.trans x2 (fun _ h => h.elim))
         clear x2
         go_wp2
         go_ret
         exact ⟨rfl, X2.out⟩
       | true =>
         have HX := Lib.hid hx
         cases hy : on (B.state u) with
         | false =>
           obtain ⟨a1, a2⟩ := on_no hy
           have HY := Lib.hid hy
           rcases on_yes hx with hx1 | hx1
           all_goals
             have HX1 := Lib.hid hx1
             clear hx hy hx1
             go_enter Try.func21, Try.ntmps21
             go_wp2_with fail
             refine (state_any r F B w t HH.out).mono ?_
             rintro e w1 ⟨rfl, x1⟩
             rw [HX1.out]
             have X1 := Lib.hid x1
             clear x1
             go_wp2_with fail
             refine (state_any r F B w1 u (HH.out.quiet X1.out)).mono ?_
             rintro e w2 ⟨rfl, x2⟩
             have X2 := Lib.hid (X1.out.trans x2 (fun _ h => h.elim))
             clear x2
             go_wp2
             go_ret
             exact ⟨rfl, X2.out⟩
         | true =>
           rcases on_yes hx with hx1 | hx1 <;> rcases on_yes hy with hy1 | hy1
           all_goals
             have HX1 := Lib.hid hx1; have HY1 := Lib.hid hy1
             clear hx hy hx1 hy1
             go_enter Try.func21, Try.ntmps21
             go_wp2_with fail
             refine (state_any r F B w t HH.out).mono ?_
             rintro e w1 ⟨rfl, x1⟩
             rw [HX1.out]
             have X1 := Lib.hid x1
             clear x1
             go_wp2_with fail
             refine (state_any r F B w1 u (HH.out.quiet X1.out)).mono ?_
             rintro e w2 ⟨rfl, x2⟩
             rw [HY1.out]
             have X2 := Lib.hid (X1.out.trans x2 (fun _ h => h.elim))
             clear x2
             go_wp2_with fail
             refine (sees_any r F B w2 t u (HH.out.quiet X2.out)).mono ?_
             rintro e w3 ⟨rfl, x3⟩
             have X3 := Lib.hid (X2.out.trans x3 (fun _ h => h.elim))
             clear x3
             cases hs : B.sees t u with
             | true =>
               have HS := Lib.hid hs
               clear hs
               go_wp2
               go_ret
               exact ⟨by rw [HS.out]; rfl, X3.out⟩
             | false =>
               have HS := Lib.hid hs
               clear hs
               go_wp2_with fail
               refine (sees_any r F B w3 u t (HH.out.quiet X3.out)).mono ?_
               rintro e w4 ⟨rfl, x4⟩
               have X4 := Lib.hid (X3.out.trans x4 (fun _ h => h.elim))
               clear x4
               go_wp2
               go_ret
               exact ⟨by rw [HS.out]; rfl, X4.out⟩
end Go.Proofs.Ytkneldeemlngkaa
