/-
  WalGoesOn: for every three rows of bytes the law returns true, and its arguments read as before. No condition.
-/
import Derived.Test.YtihpobpkhhkejaaWRowB
import Derived.Test.YtihpobpkhhkejaaWGoesOn
set_option autoImplicit false
namespace Go.Proofs.Ytihpobpkhhkejaa
open Go.ChangeShapes Go.WideShapes Go.ChangeAt Go.RowKit Go.Deep

theorem bytesU8 : Try.prog.bytesOf 5 = 1 := by kernel_rfl
set_option maxRecDepth 100000 in
theorem goesOn_lifted (os : Os) (started : os.Started) (H : Type) (enc : TypeId × Value → H) :
    ReturnsInHanded {} Try.checked os 10 .any (Rows.walGoesOnSpec.pre6 enc Try.prog Try.f10 Rows.walGoesOnRow.domain false) (Rows.walGoesOnSpec.post enc Try.prog Try.f10 false true false false) := by
  refine returnsInHanded_of_change_sized (C := Try.checked) own started (by kernel_rfl) Try.func10
    (ChangeSpec.witness6 (enc := enc) (C := Try.checked) false ⟨#[], #[.slice none 0 0, .slice none 0 0, .slice none 0 0], []⟩ 8 (by kernel_rfl) (by kernel_rfl) (by kernel_rfl) (by kernel_rfl)) ?_
  intro W base args ds gs before hval0 hW hcnd hsz0 _
  have hsz : (DataW.weightsEach Try.prog (Try.f10.params.toList ++ Rows.walGoesOnSpec.plain.varTypes Try.prog) (ds ++ gs)).all (· ≤ reachBytes) = true := hsz0
  clear hsz0
  have hval : ∀ (j : Nat) t v, Try.f10.params[j]? = some t → args[j]? = some v → Value.okWide Try.prog W .any base t v := hval0
  have hW' := hW
  obtain ⟨p, q, hA0, hV, rfl, hfz, hnd⟩ := hW
  have hA : DataW.TrodAll enc Try.prog W 0 (fun _ => true) true Try.f10.params.toList args.toList ds p := hA0
  rw [Try.params10] at hA hval hsz
  obtain ⟨v0, vs0, d0, ds0, p0, q0, hargs, rfl, rfl, h0, r0⟩ := trodAll_cons hA
  obtain ⟨v1, vs1, d1, ds1, p1, q1, rfl, rfl, rfl, h1, r1⟩ := trodAll_cons r0
  obtain ⟨v2, vs2, d2, ds2, p2, q2, rfl, rfl, rfl, h2, r2⟩ := trodAll_cons r1
  obtain ⟨rfl, rfl, rfl⟩ := trodAll_nil r2
  obtain rfl : args = #[v0, v1, v2] := by cases args; simp_all
  obtain ⟨rfl, rfl⟩ := trodVars_none hV
  obtain ⟨a0, l0, c0, rfl⟩ := okWide_slice Try.underlying22 (hval 0 22 v0 rfl rfl)
  obtain ⟨a1, l1, c1, rfl⟩ := okWide_slice Try.underlying22 (hval 1 22 v1 rfl rfl)
  obtain ⟨a2, l2, c2, rfl⟩ := okWide_slice Try.underlying22 (hval 2 22 v2 rfl rfl)
  have k0 := h0
  have k1 := h1
  have k2 := h2
  have lt0 : ∀ x ∈ p0, x.block < W.heap.size := by obtain ⟨m, hm⟩ := k0; exact DataW.trod_lt m _ _ _ hm
  have lt1 : ∀ x ∈ p1, x.block < W.heap.size := by obtain ⟨m, hm⟩ := k1; exact DataW.trod_lt m _ _ _ hm
  have lt2 : ∀ x ∈ p2, x.block < W.heap.size := by obtain ⟨m, hm⟩ := k2; exact DataW.trod_lt m _ _ _ hm
  obtain ⟨f0, e0⟩ := h0
  obtain ⟨f1, e1⟩ := h1
  obtain ⟨f2, e2⟩ := h2
  obtain ⟨xs0, b0, n0, w0⟩ := bytR_of e0
  obtain ⟨xs1, b1, n1, w1⟩ := bytR_of e1
  obtain ⟨xs2, b2, n2, w2⟩ := bytR_of e2
  have s0 : xs0.length ≤ 2000000000000000000 := by
    rcases w0 with h | ⟨el, sp, hx, hl⟩
    · omega
    · have := sized_slice hsz (j := 0) (t := 22) (e := 5) (elems := el) (spare := sp) rfl (by rw [← hx]; rfl) Try.underlying22
      rw [bytesU8, hl] at this
      unfold reachBytes at this
      omega
  have s1 : xs1.length ≤ 2000000000000000000 := by
    rcases w1 with h | ⟨el, sp, hx, hl⟩
    · omega
    · have := sized_slice hsz (j := 1) (t := 22) (e := 5) (elems := el) (spare := sp) rfl (by rw [← hx]; rfl) Try.underlying22
      rw [bytesU8, hl] at this
      unfold reachBytes at this
      omega
  have s2 : xs2.length ≤ 2000000000000000000 := by
    rcases w2 with h | ⟨el, sp, hx, hl⟩
    · omega
    · have := sized_slice hsz (j := 2) (t := 22) (e := 5) (elems := el) (spare := sp) rfl (by rw [← hx]; rfl) Try.underlying22
      rw [bytesU8, hl] at this
      unfold reachBytes at this
      omega
  clear hA0 hval0
  refine (goesOn_walk _ _ _ xs0 xs1 xs2 W b0.plain b1.plain b2.plain s0 s1 s2).mono fun e W' ⟨he, bel⟩ => ?_
  subst he
  exact ⟨_, rfl, _, _, _, [], _, [], hW', trodAll_mk1 (shut_bool Try.underlying4 _), (trodAll_cons_mk (Below.trod laidOut (by kernel_rfl) (of_decide_eq_true (by kernel_rfl)) k0 bel lt0) (trodAll_cons_mk (Below.trod laidOut (by kernel_rfl) (of_decide_eq_true (by kernel_rfl)) k1 bel lt1) (trodAll_cons_mk (Below.trod laidOut (by kernel_rfl) (of_decide_eq_true (by kernel_rfl)) k2 bel lt2) trodAll_mk0))), rfl, bel.frame _, fun h => by cases h⟩
theorem walGoesOn_proved : Rows.WalGoesOnSaid :=
  OpenClaim.holds_of_wide 10 Try.f10 rfl rfl rfl rfl rfl rfl rfl ⟨rfl, rfl, rfl, rfl, rfl⟩ rfl rfl rfl rfl rfl (by kernel_rfl) Try.func10 (by kernel_rfl)
    (of_decide_eq_true (by kernel_rfl)) (by unfold Func.isWrapper; first | (rw [if_pos (by decide +kernel)]; kernel_rfl) | (rw [if_neg (by decide +kernel)]; exact ⟨rfl, rfl⟩))
    (fun os started H enc _ => goesOn_lifted os started H enc)
#print axioms walGoesOn_proved
end Go.Proofs.Ytihpobpkhhkejaa
