/-
  What the document's book does: End, List. No condition beyond each lemma's own.
-/
import Derived.Test.YtkneldeemlngkaaMRLaw
import Derived.Test.YtkneldeemlngkaaMRCall
import Derived.Test.YtkneldeemlngkaaMRBls
set_option autoImplicit false
namespace Go.Proofs.Ytkneldeemlngkaa
open Go Go.RowKit

set_option maxRecDepth 100000 in
theorem rend_any (r : Nat) (F : Nat → Prop) (R : RBk) (w : World) (t s : Int) (h : RBookAt w r F R) :
    Calls Try.prog 15 #[.pointer (some ⟨r, 0, none⟩), .int .i64 t, .int .i64 s] w fun e w' => e = .returned (.int .i64 (R.endR t)) ∧ RBookAt w' r F (R.endB t s) ∧ Chg F w w' := by
  have HH := Lib.hid h
  clear h
  unfold RBk.endR RBk.endB
  by_cases h1 : R.state t = 1
  · rw [if_pos h1, if_pos h1]
    have dt := RBk.state_in (R := R) (t := t) (by omega)
    obtain ⟨k, rfl⟩ : ∃ k : Nat, t = k := ⟨t.toNat, by omega⟩
    have hkl : k < R.l.length := by omega
    have H1 := Lib.hid h1
    clear h1
    go_enter Try.func15, Try.ntmps15
    go_wp2_with fail
    refine (rstate_any r F R w k HH.out).mono ?_
    rintro e w1 ⟨rfl, x1⟩
    rw [H1.out]
    obtain ⟨v, us, h2⟩ := HH.out.quiet x1
    have hok := h2.ok
    have b1 : (R.l.length : Int) ≤ 16777217 := by have := hok.n2; have := hok.m1; omega
    obtain ⟨g, cap, rfl, c0, c1, hat⟩ := h2.read
    obtain ⟨sv, q0, _⟩ := hat k hkl
    obtain ⟨cur, hcur⟩ := ownsRow_heap h2.row (g := g) rfl
    have hfr := frozen_of_row w1 g (k * 3) _ _ hcur
    have HE := Lib.hid (h2.ended (g := g) rfl hkl s)
    have X1 := Lib.hid x1
    clear h2 hat hcur x1 hok
    generalize hln : R.l.length = ln at *
    clear hln
    go_wp2
    go_ret
    exact ⟨rfl, HE.out.1, (X1.out.mono (fun _ h => h.elim)).trans HE.out.2 (fun _ h => .inl h)⟩
  · rw [if_neg h1, if_neg h1]
    go_enter Try.func15, Try.ntmps15
    go_wp2_with fail
    refine (rstate_any r F R w t HH.out).mono ?_
    rintro e w1 ⟨rfl, x1⟩
    have H2 := Lib.hid (HH.out.quiet x1)
    have X1 := Lib.hid x1
    clear x1
    have q1 : (R.state t == 1) = false := by simpa using h1
    go_wp2
    go_ret
    exact ⟨rfl, H2.out, X1.out.mono (fun _ h => h.elim)⟩
theorem rlist_nil (s : Int) (w : World) : Calls Try.prog 18 #[.pointer none, .int .i64 s] w fun e w' => e = .returned (.slice none 0 0) ∧ w = w' := by
  go_enter Try.func18, Try.ntmps18
  go_wp2
  go_loopw [5, 6] (fun s5 s6 wr => s5 = .slice none 0 0 ∧ s6 = .int .i64 1 ∧ wr = w) (fun _ _ _ => 0)
  case atStart => exact ⟨rfl, rfl, rfl⟩
  case round =>
    obtain ⟨rfl, rfl, rfl⟩ := hrel
    go_wp2
    go_ret
    exact ⟨rfl, rfl⟩
set_option maxRecDepth 100000 in
set_option maxHeartbeats 1000000 in
theorem rlist_any (r : Nat) (F : Nat → Prop) (R : RBk) (w : World) (s : Int) (hs : (R.tx 0).st ≠ s) (h : RBookAt w r F R) :
    Calls Try.prog 18 #[.pointer (some ⟨r, 0, none⟩), .int .i64 s] w fun e w' => ∃ v, e = .returned v ∧ Ints w' w.heap.size v (R.list s) ∧ Chg (fun _ => False) w w' := by
  have HH := Lib.hid h
  have hok := h.ok
  have hn1 := hok.n1
  have b1 : (R.l.length : Int) ≤ 16777217 := by have := hok.n2; have := hok.m1; omega
  clear h hok
  have hu1 : (upto 1).filter (fun k => (R.tx k).st == s) = [] := by
    have : upto 1 = [0] := rfl
    rw [this]
    simp [hs]
  have HU := Lib.hid hu1
  clear hu1 hs
  go_enter Try.func18, Try.ntmps18
  go_wp2
  go_loopw [5, 6] (fun s5 s6 wr => ∃ k : Nat, 1 ≤ k ∧ k ≤ R.l.length ∧ s6 = .int .i64 k ∧ Ints wr w.heap.size s5 ((upto k).filter (fun k => (R.tx k).st == s)) ∧ Chg (fun _ => False) w wr) (fun _ s6 _ => R.l.length - (intOf s6).toNat)
  case atStart => exact ⟨1, Nat.le_refl _, hn1, rfl, by rw [show ((1 : Nat) : Int) = 1 from rfl, HU.out]; exact Ints.nil _ _, Chg.refl _ _⟩
  case round =>
    obtain ⟨k, hk1, hk, rfl, hl, hx⟩ := hrel
    have HL := Lib.hid hl; have HX := Lib.hid hx
    clear hl hx
    obtain ⟨v, us, h2⟩ := HH.out.quiet HX.out
    obtain ⟨g, cap, rfl, c0, c1, hat⟩ := h2.read
    clear h2
    by_cases hlt : k < R.l.length
    · obtain ⟨sv, q0, _⟩ := hat k hlt
      have HS := Lib.hid (show upto ((k : Int) + 1) = upto k ++ [(k : Int)] from upto_succ (by omega))
      clear hat
      by_cases he : (R.tx k).st = s
      · have HE := Lib.hid he
        rw [he] at q0
        have C6 := Lib.hid ((Chg.refl (fun _ => False) wr).alloc (.cells #[.int .i64 k] 3))
        have N6 := Lib.hid (hal_new (w := wr) (o := .cells #[.int .i64 k] 3))
        have zr := HX.out.size
        have hll : ((upto k).filter (fun k => (R.tx k).st == s)).length ≤ 16777217 := Nat.le_trans (List.length_filter_le _ _) (by unfold upto; simp; omega)
        have HLL := Lib.hid hll
        clear hll he
        go_wp2_with (at_builtin; refine ints_app rfl _ _ rfl w.heap.size u5 _ rfl (HL.out.quiet C6.out) wr.heap.size k rfl N6.out (Nat.lt_of_le_of_lt HLL.out (by omega)) (by simp; omega) ?_)
        intro v6 w6 hv6 c6 hn6
        have HV6 := Lib.hid hv6
        have HX6 := Lib.hid (((HX.out.trans C6.out (fun _ h => h.elim)).trans (G := fun k => u5.ownBlock = some k) c6 (fun x hx => .inr (HL.out.lo x hx))))
        clear hv6 c6 hn6
        go_wp2
        go_roundw
        case rel =>
          refine ⟨k + 1, by omega, by omega, by go_num, ?_, HX6.out⟩
          rw [show ((k + 1 : Nat) : Int) = (k : Int) + 1 by omega, HS.out, List.filter_append]
          have : ([(k : Int)].filter fun t => (R.tx t).st == s) = [(k : Int)] := by simp [HE.out]
          rw [this]
          exact HV6.out
        case measure => simp [intOf]; omega
      · have qe : ((R.tx k).st == s) = false := by simpa using he
        have HE := Lib.hid qe
        generalize hst : (R.tx k).st = st at *
        have HST := Lib.hid hst
        clear hst he
        go_wp2
        go_roundw
        case rel =>
          refine ⟨k + 1, by omega, by omega, by go_num, ?_, HX.out⟩
          rw [show ((k + 1 : Nat) : Int) = (k : Int) + 1 by omega, HS.out, List.filter_append]
          have : ([(k : Int)].filter fun t => (R.tx t).st == s) = [] := by simp [HST.out, HE.out]
          rw [this, List.append_nil]
          exact HL.out
        case measure => simp [intOf]; omega
    · obtain rfl : k = R.l.length := by omega
      clear hat
      go_wp2
      go_ret
      exact ⟨_, rfl, HL.out, HX.out⟩
end Go.Proofs.Ytkneldeemlngkaa
