/-
  WalResets: for every list of rows of bytes, every number and every list of bools the law returns true, and its arguments read as before. No condition.
-/
import Derived.Test.YtihpobpkhhkejaaWRowB
import Derived.Test.YtihpobpkhhkejaaWResets
set_option autoImplicit false
namespace Go.Proofs.Ytihpobpkhhkejaa
open Go.ChangeShapes Go.WideShapes Go.ChangeAt Go.RowKit Go.Deep

theorem slice_cap {H : Type} {enc : TypeId × Value → H} {w : World} {base : Nat} {spare : Nat → Bool} {held : Bool} {t e : TypeId} {fuel : Nat} {ao : Option Addr} {len cap : Nat} {x : DataW H × List MemPlace} (ht : Try.prog.underlying t = some (.slice e))
    (h : DataW.trod enc Try.prog w base spare held fuel t (Value.slice ao len cap).cells.toList = some x) : len ≤ cap := by
  rcases open_slice ht h with ⟨hcs, _⟩ | ⟨a, l, c, m, n, D, Pl, hcs, _, hl, _⟩
  · simp [Value.cells] at hcs
    omega
  · simp [Value.cells] at hcs
    omega
theorem boolsAt_of (w : World) (a : Option Addr) (l c : Nat) (kb : Nat → Bool) (hl : l ≤ maxLen) (h : SlRd w a l 1 (fun i _ => .bool (kb i))) : BoolsAt w (fun k => w.heap.size ≤ k) (.slice a l c) ((List.range l).map kb) := by
  refine ⟨a, c, by simp, by simpa [maxLen] using hl, fun hk => ?_⟩
  obtain ⟨b, o, rfl, hb, hc⟩ := h (by simpa using hk)
  refine ⟨b, o, rfl, by omega, fun i k hi => ?_⟩
  have hi2 : i < l := by
    have := (List.getElem?_eq_some_iff.1 hi).1
    simpa using this
  have := hc i 0 hi2 (by omega)
  simp only [Nat.mul_one, Nat.add_zero] at this
  rw [this]
  simp [hi2] at hi
  rw [hi]
set_option maxRecDepth 100000 in
theorem resets_lifted (os : Os) (started : os.Started) (H : Type) (enc : TypeId × Value → H) :
    ReturnsInHanded {} Try.checked os 12 .any (Rows.walResetsSpec.pre6 enc Try.prog Try.f12 Rows.walResetsRow.domain false) (Rows.walResetsSpec.post enc Try.prog Try.f12 false true false false) := by
  refine returnsInHanded_of_change_sized (C := Try.checked) own started (by kernel_rfl) Try.func12
    (ChangeSpec.witness6 (enc := enc) (C := Try.checked) false ⟨#[], #[.slice none 0 0, .int .u8 0, .slice none 0 0], []⟩ 8 (by kernel_rfl) (by kernel_rfl) (by kernel_rfl) (by kernel_rfl)) ?_
  intro W base args ds gs before hval0 hW hcnd hsz0 _
  have hsz : (DataW.weightsEach Try.prog (Try.f12.params.toList ++ Rows.walResetsSpec.plain.varTypes Try.prog) (ds ++ gs)).all (· ≤ reachBytes) = true := hsz0
  clear hsz0
  have hval : ∀ (j : Nat) t v, Try.f12.params[j]? = some t → args[j]? = some v → Value.okWide Try.prog W .any base t v := hval0
  have hW' := hW
  obtain ⟨p, q, hA0, hV, rfl, hfz, hnd⟩ := hW
  have hA : DataW.TrodAll enc Try.prog W 0 (fun _ => true) true Try.f12.params.toList args.toList ds p := hA0
  rw [Try.params12] at hA hval hsz
  obtain ⟨v0, vs0, d0, ds0, p0, q0, hargs, rfl, rfl, h0, r0⟩ := trodAll_cons hA
  obtain ⟨v1, vs1, d1, ds1, p1, q1, rfl, rfl, rfl, h1, r1⟩ := trodAll_cons r0
  obtain ⟨v2, vs2, d2, ds2, p2, q2, rfl, rfl, rfl, h2, r2⟩ := trodAll_cons r1
  obtain ⟨rfl, rfl, rfl⟩ := trodAll_nil r2
  obtain rfl : args = #[v0, v1, v2] := by cases args; simp_all
  obtain ⟨rfl, rfl⟩ := trodVars_none hV
  obtain ⟨a0, l0, c0, rfl⟩ := okWide_slice Try.underlying65 (hval 0 65 v0 rfl rfl)
  obtain ⟨a1, rfl, rfl, rfl, w1⟩ := open_int Try.underlying5 (hval 1 5 v1 rfl rfl) h1
  obtain ⟨a2, l2, c2, rfl⟩ := okWide_slice Try.underlying23 (hval 2 23 v2 rfl rfl)
  have b1 : 0 ≤ a1 ∧ a1 ≤ 255 := by
    simp [Lit.wf, IntKind.min, IntKind.max, IntKind.signed, IntKind.bits] at w1
    simpa using w1
  have k0 := h0
  have k2 := h2
  have lt0 : ∀ x ∈ p0, x.block < W.heap.size := by obtain ⟨m, hm⟩ := k0; exact DataW.trod_lt m _ _ _ hm
  have lt2 : ∀ x ∈ p2, x.block < W.heap.size := by obtain ⟨m, hm⟩ := k2; exact DataW.trod_lt m _ _ _ hm
  obtain ⟨f0, e0⟩ := h0
  obtain ⟨f2, e2⟩ := h2
  obtain ⟨rs, hr, _, hrl, _⟩ := recsR_of e0 (fun n hn => by
    have := List.all_eq_true.1 hsz n (DataW.weights_mem_each (j := 0) (t := 65) rfl rfl n hn)
    simpa using this)
  have hcap := slice_cap Try.underlying65 e0
  obtain ⟨V1, m1, rd1, ok1⟩ := slice1_rd Try.underlying23 (by kernel_rfl) (p := fun V => ∃ b, V = .bool b) (fun V n y h => bool_of Try.underlying4 h) e2
  obtain ⟨kb, hkb⟩ := choose_lt ok1
  have g1 : SlRd W a2 l2 1 (fun i _ => .bool (kb i)) := fun hp => by
    obtain ⟨b, o, e, hl, hc⟩ := rd1 hp
    exact ⟨b, o, e, hl, fun i j hi hj => by rw [hc i j hi hj]; congr 1; exact hkb i hi⟩
  clear hA0 hval0
  refine (resets_walk _ _ l0 c0 l2 c2 a1 rs _ W hr (fun r hr => Nat.le_trans (hrl r hr) (by unfold reachBytes; omega)) hcap (boolsAt_of W a2 l2 c2 kb m1 g1) b1.1 b1.2).mono fun e W' ⟨he, bel⟩ => ?_
  subst he
  exact ⟨_, rfl, _, _, _, [], _, [], hW', trodAll_mk1 (shut_bool Try.underlying4 _), (trodAll_cons_mk (Below.trod laidOut (by kernel_rfl) (of_decide_eq_true (by kernel_rfl)) k0 bel lt0) (trodAll_cons_mk (shut_int Try.underlying5 w1) (trodAll_cons_mk (Below.trod laidOut (by kernel_rfl) (of_decide_eq_true (by kernel_rfl)) k2 bel lt2) trodAll_mk0))), rfl, bel.frame _, fun h => by cases h⟩
theorem walResets_proved : Rows.WalResetsSaid :=
  OpenClaim.holds_of_wide 12 Try.f12 rfl rfl rfl rfl rfl rfl rfl ⟨rfl, rfl, rfl, rfl, rfl⟩ rfl rfl rfl rfl rfl (by kernel_rfl) Try.func12 (by kernel_rfl)
    (of_decide_eq_true (by kernel_rfl)) (by unfold Func.isWrapper; first | (rw [if_pos (by decide +kernel)]; kernel_rfl) | (rw [if_neg (by decide +kernel)]; exact ⟨rfl, rfl⟩))
    (fun os started H enc _ => resets_lifted os started H enc)
#print axioms walResets_proved
end Go.Proofs.Ytihpobpkhhkejaa
