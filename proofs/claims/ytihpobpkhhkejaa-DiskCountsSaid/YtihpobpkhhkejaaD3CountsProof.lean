/-
  DiskCounts: for every number and every list of writes the law returns true, and its arguments read as before. No condition.
-/
import Derived.Test.YtihpobpkhhkejaaRows
import Derived.Test.YtihpobpkhhkejaaD3Counts
import Derived.ProofKit
import Derived.OpenShut
import Derived.ChangeOld
import Derived.Deep.SlicePairs
set_option autoImplicit false
namespace Go.Proofs.Ytihpobpkhhkejaa
open Go.ChangeShapes Go.WideShapes Go.ChangeAt Go.RowKit Go.Deep

theorem own : ownKnob Try.prog.godebug = none := by kernel_rfl
theorem laidOut : laidOutB Try.prog = true := by kernel_rfl
theorem i64_of {V : Value} {H : Type} {enc : TypeId × Value → H} {w : World} {base : Nat} {spare : Nat → Bool} {held : Bool} {n t : Nat} {y : DataW H × List MemPlace} (ht : Try.prog.underlying t = some (.int .i64))
    (h : DataW.trod enc Try.prog w base spare held n t [V] = some y) : V = .int .i64 (intOf V) ∧ -9223372036854775808 ≤ intOf V ∧ intOf V ≤ 9223372036854775807 := by
  obtain ⟨a, e0, _, wa⟩ := DataW.trod_int ht h
  simp at e0
  subst e0
  refine ⟨rfl, ?_⟩
  simp [Lit.wf, IntKind.min, IntKind.max, IntKind.signed, IntKind.bits] at wa
  simpa [intOf] using wa
theorem u8_of {V : Value} {H : Type} {enc : TypeId × Value → H} {w : World} {base : Nat} {spare : Nat → Bool} {held : Bool} {n t : Nat} {y : DataW H × List MemPlace} (ht : Try.prog.underlying t = some (.int .u8))
    (h : DataW.trod enc Try.prog w base spare held n t [V] = some y) : V = .int .u8 (intOf V) ∧ 0 ≤ intOf V ∧ intOf V ≤ 255 := by
  obtain ⟨a, e0, _, wa⟩ := DataW.trod_int ht h
  simp at e0
  subst e0
  refine ⟨rfl, ?_⟩
  simp [Lit.wf, IntKind.min, IntKind.max, IntKind.signed, IntKind.bits] at wa
  simpa [intOf] using wa
theorem addr_plain {w : World} {a : Addr} {n : Nat} {v : Value} (h : w.cell? (a.add n) = some v) (hn : n = 0) : a = ⟨a.block, a.off, none⟩ := by
  subst hn
  obtain ⟨b, o, s⟩ := a
  have := World.cell?_spot h
  simp [Addr.add] at this
  subst this
  rfl
set_option maxRecDepth 100000 in
theorem counts_lifted (os : Os) (started : os.Started) (H : Type) (enc : TypeId × Value → H) :
    ReturnsInHanded {} Try.checked os 4 .any (Rows.diskCountsSpec.pre6 enc Try.prog Try.f4 Rows.diskCountsRow.domain false) (Rows.diskCountsSpec.post enc Try.prog Try.f4 false true false false) := by
  refine returnsInHanded_of_change (C := Try.checked) own started (by kernel_rfl) Try.func4
    (ChangeSpec.witness6 (enc := enc) (C := Try.checked) false ⟨#[], #[.int .u8 0, .slice none 0 0], []⟩ 8 (by kernel_rfl) (by kernel_rfl) (by kernel_rfl) (by kernel_rfl)) ?_
  intro W base args ds gs before hval0 hW hcnd _
  have hval : ∀ (j : Nat) t v, Try.f4.params[j]? = some t → args[j]? = some v → Value.okWide Try.prog W .any base t v := hval0
  have hW' := hW
  obtain ⟨p, q, hA0, hV, rfl, hfz, hnd⟩ := hW
  have hA : DataW.TrodAll enc Try.prog W 0 (fun _ => true) true Try.f4.params.toList args.toList ds p := hA0
  rw [Try.params4] at hA hval
  obtain ⟨v0, vs0, d0, ds0, p0, q0, hargs, rfl, rfl, h0, r0⟩ := trodAll_cons hA
  obtain ⟨v1, vs1, d1, ds1, p1, q1, rfl, rfl, rfl, h1, r1⟩ := trodAll_cons r0
  obtain ⟨rfl, rfl, rfl⟩ := trodAll_nil r1
  obtain rfl : args = #[v0, v1] := by cases args; simp_all
  obtain ⟨rfl, rfl⟩ := trodVars_none hV
  obtain ⟨a0, rfl, rfl, rfl, w0⟩ := open_int Try.underlying5 (hval 0 5 v0 rfl rfl) h0
  obtain ⟨a1, len1, cap1, rfl⟩ := okWide_slice Try.underlying38 (hval 1 38 v1 rfl rfl)
  have k1 := h1
  have lt1 : ∀ x ∈ p1, x.block < W.heap.size := by obtain ⟨m, hm⟩ := k1; exact DataW.trod_lt m _ _ _ hm
  have b0 : 0 ≤ a0 ∧ a0 ≤ 255 := by
    simp [Lit.wf, IntKind.min, IntKind.max, IntKind.signed, IntKind.bits] at w0
    simpa using w0
  have hp : ∃ (pn pb : Nat → Int), len1 ≤ maxLen ∧ SlRd W a1 len1 2 (fun i j => if j = 0 then .int .i64 (pn i) else .int .u8 (pb i)) ∧ ∀ i, i < len1 → -9223372036854775808 ≤ pn i ∧ pn i ≤ 9223372036854775807 := by
    obtain ⟨fuel, hf⟩ := h1
    rcases open_slice_pairs Try.underlying38 Try.underlying41 (by kernel_rfl) rfl rfl (by kernel_rfl) (by kernel_rfl) hf with ⟨hcs, _⟩ | ⟨a, len, cap, m, n, V0, V1, D0, D1, P0, P1, hcs, _, hl, hm, hmm, _, hc⟩
    · simp [Value.cells] at hcs
      obtain ⟨rfl, rfl, rfl⟩ := hcs
      exact ⟨fun _ => 0, fun _ => 0, Nat.zero_le _, fun h => by omega, fun i hi => by omega⟩
    · simp [Value.cells] at hcs
      obtain ⟨rfl, rfl, rfl⟩ := hcs
      simp only [if_true] at hmm
      refine ⟨fun i => intOf (V0 i), fun i => intOf (V1 i), by omega, fun hpos => ?_, fun i hi => (i64_of Try.underlying3 (hc i (by omega)).2.2.1).2⟩
      have hz := (hc 0 (by omega)).1
      have ha := addr_plain hz (by omega)
      refine ⟨a.block, a.off, by rw [← ha], by have := World.block_lt_of_cell? W _ hz; rw [ha] at this; simpa [Addr.add] using this, fun i j hi hj => ?_⟩
      have hi' := hc i (by omega)
      have hv0 := (i64_of Try.underlying3 hi'.2.2.1).1
      have hv1 := (u8_of Try.underlying5 hi'.2.2.2).1
      rw [ha, Addr.add_mid, Addr.add_mid] at hi'
      match j, hj with
      | 0, _ => simp only [if_true, Nat.add_zero]; rw [← hv0]; exact hi'.1
      | 1, _ => simp only [Nat.one_ne_zero, if_false]; rw [← hv1]; exact hi'.2.1
  obtain ⟨pn, pb, hlen, hrd, hpr⟩ := hp
  clear hA0 hval0
  refine (counts_walk a0 a1 len1 cap1 pn pb W b0.1 b0.2 hlen hrd hpr).mono fun e W' ⟨he, bel⟩ => ?_
  subst he
  exact ⟨_, rfl, _, _, _, [], _, [], hW', trodAll_mk1 (shut_bool Try.underlying4 _), (trodAll_cons_mk (shut_int Try.underlying5 w0) (trodAll_cons_mk (Below.trod laidOut (by kernel_rfl) (of_decide_eq_true (by kernel_rfl)) k1 bel lt1) trodAll_mk0)), rfl, bel.frame _, fun h => by cases h⟩
theorem diskCounts_proved : Rows.DiskCountsSaid :=
  OpenClaim.holds_of_wide 4 Try.f4 rfl rfl rfl rfl rfl rfl rfl ⟨rfl, rfl, rfl, rfl, rfl⟩ rfl rfl rfl rfl rfl (by kernel_rfl) Try.func4 (by kernel_rfl)
    (of_decide_eq_true (by kernel_rfl)) (by unfold Func.isWrapper; first | (rw [if_pos (by decide +kernel)]; kernel_rfl) | (rw [if_neg (by decide +kernel)]; exact ⟨rfl, rfl⟩))
    (fun os started H enc _ => counts_lifted os started H enc)
#print axioms diskCounts_proved
end Go.Proofs.Ytihpobpkhhkejaa
