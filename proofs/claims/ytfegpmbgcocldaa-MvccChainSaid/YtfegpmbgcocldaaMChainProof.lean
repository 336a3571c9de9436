/-
  MvccChain: for every two lists of bytes the law returns true, and its arguments read as before. No condition.
-/
import Derived.Test.YtfegpmbgcocldaaRow
import Derived.Test.YtfegpmbgcocldaaMChain
set_option autoImplicit false
namespace Go.Proofs.Ytfegpmbgcocldaa
open Go.ChangeShapes Go.WideShapes Go.ChangeAt Go.RowKit Go.Deep

set_option maxRecDepth 100000 in
theorem chain_lifted (os : Os) (started : os.Started) (H : Type) (enc : TypeId × Value → H) :
    ReturnsInHanded {} Try.checked os 3 .any (Rows.mvccChainSpec.pre6 enc Try.prog Try.f3 Rows.mvccChainRow.domain false) (Rows.mvccChainSpec.post enc Try.prog Try.f3 false true false false) := by
  refine returnsInHanded_of_change (C := Try.checked) own started (by kernel_rfl) Try.func3
    (ChangeSpec.witness6 (enc := enc) (C := Try.checked) false ⟨#[], #[.slice none 0 0, .slice none 0 0], []⟩ 8 (by kernel_rfl) (by kernel_rfl) (by kernel_rfl) (by kernel_rfl)) ?_
  intro W base args ds gs before hval0 hW hcnd _
  have hval : ∀ (j : Nat) t v, Try.f3.params[j]? = some t → args[j]? = some v → Value.okWide Try.prog W .any base t v := hval0
  have hW' := hW
  obtain ⟨p, q, hA0, hV, rfl, hfz, hnd⟩ := hW
  have hA : DataW.TrodAll enc Try.prog W 0 (fun _ => true) true Try.f3.params.toList args.toList ds p := hA0
  rw [Try.params3] at hA hval
  obtain ⟨v0, vs0, d0, ds0, p0, q0, hargs, rfl, rfl, h0, r0⟩ := trodAll_cons hA
  obtain ⟨v1, vs1, d1, ds1, p1, q1, rfl, rfl, rfl, h1, r1⟩ := trodAll_cons r0
  obtain ⟨rfl, rfl, rfl⟩ := trodAll_nil r1
  obtain rfl : args = #[v0, v1] := by cases args; simp_all
  obtain ⟨rfl, rfl⟩ := trodVars_none hV
  obtain ⟨a0, l0, c0, rfl⟩ := okWide_slice Try.underlying22 (hval 0 22 v0 rfl rfl)
  obtain ⟨a1, l1, c1, rfl⟩ := okWide_slice Try.underlying22 (hval 1 22 v1 rfl rfl)
  have k0 := h0
  have k1 := h1
  have lt0 : ∀ x ∈ p0, x.block < W.heap.size := by obtain ⟨m, hm⟩ := k0; exact DataW.trod_lt m _ _ _ hm
  have lt1 : ∀ x ∈ p1, x.block < W.heap.size := by obtain ⟨m, hm⟩ := k1; exact DataW.trod_lt m _ _ _ hm
  obtain ⟨f0, e0⟩ := h0
  obtain ⟨f1, e1⟩ := h1
  obtain ⟨V0, m0, rd0, ok0⟩ := slice1_rd Try.underlying22 (by kernel_rfl) (p := fun V => V = .int .u8 (intOf V) ∧ 0 ≤ intOf V ∧ intOf V ≤ 255) (fun V n y h => u8_of Try.underlying5 h) e0
  obtain ⟨V1, m1, rd1, ok1⟩ := slice1_rd Try.underlying22 (by kernel_rfl) (p := fun V => V = .int .u8 (intOf V) ∧ 0 ≤ intOf V ∧ intOf V ≤ 255) (fun V n y h => u8_of Try.underlying5 h) e1
  have g0 : SlRd W a0 l0 1 (fun i _ => .int .u8 (intOf (V0 i))) := fun hp => by
    obtain ⟨b, o, e, hl, hc⟩ := rd0 hp
    exact ⟨b, o, e, hl, fun i j hi hj => by rw [hc i j hi hj]; congr 1; exact (ok0 i hi).1⟩
  have g1 : SlRd W a1 l1 1 (fun i _ => .int .u8 (intOf (V1 i))) := fun hp => by
    obtain ⟨b, o, e, hl, hc⟩ := rd1 hp
    exact ⟨b, o, e, hl, fun i j hi hj => by rw [hc i j hi hj]; congr 1; exact (ok1 i hi).1⟩
  clear hA0 hval0
  refine (chain_walk a0 a1 l0 c0 l1 c1 (fun i => intOf (V0 i)) (fun i => intOf (V1 i)) W m0 m1 g0 g1 (fun i hi => (ok0 i hi).2) (fun i hi => (ok1 i hi).2)).mono fun e W' ⟨he, bel⟩ => ?_
  subst he
  exact ⟨_, rfl, _, _, _, [], _, [], hW', trodAll_mk1 (shut_bool Try.underlying4 _), (trodAll_cons_mk (Below.trod laidOut (by kernel_rfl) (of_decide_eq_true (by kernel_rfl)) k0 bel lt0) (trodAll_cons_mk (Below.trod laidOut (by kernel_rfl) (of_decide_eq_true (by kernel_rfl)) k1 bel lt1) trodAll_mk0)), rfl, bel.frame _, fun h => by cases h⟩
theorem mvccChain_proved : Rows.MvccChainSaid :=
  OpenClaim.holds_of_wide 3 Try.f3 rfl rfl rfl rfl rfl rfl rfl ⟨rfl, rfl, rfl, rfl, rfl⟩ rfl rfl rfl rfl rfl (by kernel_rfl) Try.func3 (by kernel_rfl)
    (of_decide_eq_true (by kernel_rfl)) (by unfold Func.isWrapper; first | (rw [if_pos (by decide +kernel)]; kernel_rfl) | (rw [if_neg (by decide +kernel)]; exact ⟨rfl, rfl⟩))
    (fun os started H enc _ => chain_lifted os started H enc)
#print axioms mvccChain_proved
end Go.Proofs.Ytfegpmbgcocldaa
