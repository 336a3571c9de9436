/-
  DiskAll: for every list of writes and every place of the Sync the law returns true, and its arguments read as before. No condition.
-/
import Derived.Test.YtihpobpkhhkejaaRow
import Derived.Test.YtihpobpkhhkejaaD3All
set_option autoImplicit false
namespace Go.Proofs.Ytihpobpkhhkejaa
open Go.ChangeShapes Go.WideShapes Go.ChangeAt Go.RowKit Go.Deep

set_option maxRecDepth 100000 in
theorem all_lifted (os : Os) (started : os.Started) (H : Type) (enc : TypeId × Value → H) :
    ReturnsInHanded {} Try.checked os 5 .any (Rows.diskAllSpec.pre6 enc Try.prog Try.f5 Rows.diskAllRow.domain false) (Rows.diskAllSpec.post enc Try.prog Try.f5 false true false false) := by
  refine returnsInHanded_of_change (C := Try.checked) own started (by kernel_rfl) Try.func5
    (ChangeSpec.witness6 (enc := enc) (C := Try.checked) false ⟨#[], #[.slice none 0 0, .int .i64 0], []⟩ 8 (by kernel_rfl) (by kernel_rfl) (by kernel_rfl) (by kernel_rfl)) ?_
  intro W base args ds gs before hval0 hW hcnd _
  have hval : ∀ (j : Nat) t v, Try.f5.params[j]? = some t → args[j]? = some v → Value.okWide Try.prog W .any base t v := hval0
  have hW' := hW
  obtain ⟨p, q, hA0, hV, rfl, hfz, hnd⟩ := hW
  have hA : DataW.TrodAll enc Try.prog W 0 (fun _ => true) true Try.f5.params.toList args.toList ds p := hA0
  rw [Try.params5] at hA hval
  obtain ⟨v1, vs1, d1, ds1, p1, q1, hargs, rfl, rfl, h1, r1⟩ := trodAll_cons hA
  obtain ⟨v0, vs0, d0, ds0, p0, q0, rfl, rfl, rfl, h0, r0⟩ := trodAll_cons r1
  obtain ⟨rfl, rfl, rfl⟩ := trodAll_nil r0
  obtain rfl : args = #[v1, v0] := by cases args; simp_all
  obtain ⟨rfl, rfl⟩ := trodVars_none hV
  obtain ⟨a0, rfl, rfl, rfl, w0⟩ := open_int Try.underlying3 (hval 1 3 v0 rfl rfl) h0
  obtain ⟨a1, len1, cap1, rfl⟩ := okWide_slice Try.underlying38 (hval 0 38 v1 rfl rfl)
  have k1 := h1
  have lt1 : ∀ x ∈ p1, x.block < W.heap.size := by obtain ⟨m, hm⟩ := k1; exact DataW.trod_lt m _ _ _ hm
  have b0 : -9223372036854775808 ≤ a0 ∧ a0 ≤ 9223372036854775807 := by
    simp [Lit.wf, IntKind.min, IntKind.max, IntKind.signed, IntKind.bits] at w0
    simpa using w0
  have hp : ∃ (pn pb : Nat → Int), len1 ≤ maxLen ∧ len1 ≤ cap1 ∧ SlRd W a1 len1 2 (fun i j => if j = 0 then .int .i64 (pn i) else .int .u8 (pb i)) := by
    obtain ⟨fuel, hf⟩ := h1
    rcases open_slice_pairs Try.underlying38 Try.underlying41 (by kernel_rfl) rfl rfl (by kernel_rfl) (by kernel_rfl) hf with ⟨hcs, _⟩ | ⟨a, len, cap, m, n, V0, V1, D0, D1, P0, P1, hcs, _, hl, hm, hmm, _, hc⟩
    · simp [Value.cells] at hcs
      obtain ⟨rfl, rfl, rfl⟩ := hcs
      exact ⟨fun _ => 0, fun _ => 0, Nat.zero_le _, Nat.le_refl _, fun h => by omega⟩
    · simp [Value.cells] at hcs
      obtain ⟨rfl, rfl, rfl⟩ := hcs
      simp only [if_true] at hmm
      refine ⟨fun i => intOf (V0 i), fun i => intOf (V1 i), by omega, by omega, fun hpos => ?_⟩
      have hz := (hc 0 (by omega)).1
      have ha := addr_plain hz (by omega)
      refine ⟨a.block, a.off, by rw [← ha], by have := World.block_lt_of_cell? W _ hz; rw [ha] at this; simpa [Addr.add] using this, fun i j hi hj => ?_⟩
      have hi' := hc i (by omega)
      have hv0 := (i64_of Try.underlying3 hi'.2.2.1).1
      have hv1 := (u8_of Try.underlying5 hi'.2.2.2).1
      rw [ha, Addr.add_mid, Addr.add_mid] at hi'
      match j, hj with
      | 0, _ => simp only [if_true, Nat.add_zero]; rw [← hv0]; exact hi'.1
      | 1, _ => simp only [Nat.one_ne_zero, if_false]; rw [← hv1]; exact hi'.2.1
  obtain ⟨pn, pb, hlen, hcap, hrd⟩ := hp
  clear hA0 hval0
  refine (all_walk a0 a1 len1 cap1 pn pb W hlen hcap b0.1 b0.2 hrd).mono fun e W' ⟨he, bel⟩ => ?_
  subst he
  exact ⟨_, rfl, _, _, _, [], _, [], hW', trodAll_mk1 (shut_bool Try.underlying4 _), (trodAll_cons_mk (Below.trod laidOut (by kernel_rfl) (of_decide_eq_true (by kernel_rfl)) k1 bel lt1) (trodAll_cons_mk (shut_int Try.underlying3 w0) trodAll_mk0)), rfl, bel.frame _, fun h => by cases h⟩
theorem diskAll_proved : Rows.DiskAllSaid :=
  OpenClaim.holds_of_wide 5 Try.f5 rfl rfl rfl rfl rfl rfl rfl ⟨rfl, rfl, rfl, rfl, rfl⟩ rfl rfl rfl rfl rfl (by kernel_rfl) Try.func5 (by kernel_rfl)
    (of_decide_eq_true (by kernel_rfl)) (by unfold Func.isWrapper; first | (rw [if_pos (by decide +kernel)]; kernel_rfl) | (rw [if_neg (by decide +kernel)]; exact ⟨rfl, rfl⟩))
    (fun os started H enc _ => all_lifted os started H enc)
#print axioms diskAll_proved
end Go.Proofs.Ytihpobpkhhkejaa
