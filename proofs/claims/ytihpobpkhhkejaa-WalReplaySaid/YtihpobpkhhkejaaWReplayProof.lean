/-
  WalReplay: for every list of rows of bytes, every list of bools and every crash the law returns true, and its arguments read as before. No condition.
-/
import Derived.Test.YtihpobpkhhkejaaWRowB
import Derived.Test.YtihpobpkhhkejaaWReplay
set_option autoImplicit false
namespace Go.Proofs.Ytihpobpkhhkejaa
open Go.ChangeShapes Go.WideShapes Go.ChangeAt Go.RowKit Go.Deep

theorem boolsAt_of2 (w : World) (a : Option Addr) (l c : Nat) (kb : Nat → Bool) (hl : l ≤ maxLen) (h : SlRd w a l 1 (fun i _ => .bool (kb i))) : BoolsAt w (fun k => w.heap.size ≤ k) (.slice a l c) ((List.range l).map kb) := by
  refine ⟨a, c, by simp, by simpa [maxLen] using hl, fun hk => ?_⟩
  obtain ⟨b, o, rfl, hb, hc⟩ := h (by simpa using hk)
  refine ⟨b, o, rfl, by omega, fun i k hi => ?_⟩
  have hi2 : i < l := by
    have := (List.getElem?_eq_some_iff.1 hi).1
    simpa using this
  have := hc i 0 hi2 (by omega)
  simp only [Nat.mul_one, Nat.add_zero] at this
  rw [this]
  simp [hi2] at hi
  rw [hi]
theorem crashFields : ∃ fs : Array Field, Try.prog.underlying 73 = some (.struct fs) ∧ oneCellFields Try.prog fs = true ∧ Try.prog.cellsOf 73 = fs.size ∧ fs.size = 2 ∧ (∃ f, fs[0]? = some f ∧ f.type = 3) ∧ (∃ f, fs[1]? = some f ∧ f.type = 23) :=
  ⟨_, Try.underlying73, by kernel_rfl, by kernel_rfl, rfl, ⟨_, rfl, rfl⟩, ⟨_, rfl, rfl⟩⟩
set_option maxRecDepth 100000 in
/-- a crash that came in, by value -/
theorem crash_rd {H : Type} {enc : TypeId × Value → H} {w : World} {base b0 : Nat} {held : Bool} {v : Value} {d : DataW H} {p : List MemPlace} {r : Reach} (hv : Value.okWide Try.prog w r b0 73 v) (h : DataW.Trod enc Try.prog w base (fun _ => true) held 73 v d p) :
    ∃ a ao l c ks, v = .agg #[.int .i64 a, .slice ao l c] ∧ BoolsAt w (fun k => w.heap.size ≤ k) (.slice ao l c) ks := by
  obtain ⟨fs, hu, hone, hC, h2, ⟨f0, e0, t0⟩, ⟨f1, e1, t1⟩⟩ := crashFields
  simp only [Value.okWide, hu] at hv
  obtain ⟨cs, rfl, hsz, _⟩ := hv
  obtain ⟨l⟩ := cs
  rw [hC, h2] at hsz
  match l, hsz with
  | [x0, x1], _ =>
    obtain ⟨fuel, hf⟩ := h
    obtain ⟨ys, n', hn', hy, hlen, hyl, hfld⟩ := DataW.trod_struct hu hf
    have hg : ∀ (j : Nat) (f : Field) (x : Value), fs[j]? = some f → [x0, x1][j]? = some x → ∃ y, DataW.trod enc Try.prog w base (fun _ => true) held n' f.type [x] = some y := by
      intro j f x hj hx
      obtain ⟨ho, hk⟩ := hone_of hone j f hj
      have hjl : j < fs.size := (Array.getElem?_eq_some_iff.1 hj).1
      have h1 := hfld j f hj
      rw [ho, hk] at h1
      have hone' : (((Value.agg [x0, x1].toArray).cells.toList).drop j).take 1 = [x] := by
        have hjl2 : j < [x0, x1].length := by simp; omega
        show ([x0, x1].drop j).take 1 = [x]
        rw [List.drop_eq_getElem_cons hjl2]
        rw [List.getElem?_eq_getElem hjl2] at hx
        rw [← Option.some.inj hx]
        rfl
      rw [hone'] at h1
      have hys : ys[j]? = some (ys[j]'(by omega)) := List.getElem?_eq_getElem (by omega)
      exact ⟨_, h1.trans hys⟩
    obtain ⟨y0, g0⟩ := hg 0 f0 x0 e0 rfl
    obtain ⟨y1, g1⟩ := hg 1 f1 x1 e1 rfl
    rw [t0] at g0
    rw [t1] at g1
    have hx0 := (i64_of Try.underlying3 g0).1
    obtain ⟨ka, kl, kc, rfl⟩ := slice_form Try.underlying23 g1
    obtain ⟨VB, m2, rd2, ok2⟩ := slice1_rd Try.underlying23 (by kernel_rfl) (p := fun V => ∃ b, V = .bool b) (fun V n y h => bool_of Try.underlying4 h) (show DataW.trod enc Try.prog w base (fun _ => true) held n' 23 (Value.slice ka kl kc).cells.toList = some y1 from g1)
    obtain ⟨kb, hkb⟩ := choose_lt ok2
    have rdb : SlRd w ka kl 1 (fun i _ => .bool (kb i)) := fun hp => by
      obtain ⟨b, o, e, hl, hc⟩ := rd2 hp
      exact ⟨b, o, e, hl, fun i j hi hj => by rw [hc i j hi hj]; congr 1; exact hkb i hi⟩
    exact ⟨intOf x0, ka, kl, kc, _, by rw [← hx0], boolsAt_of2 w ka kl kc kb m2 rdb⟩
set_option maxRecDepth 100000 in
theorem replay_lifted (os : Os) (started : os.Started) (H : Type) (enc : TypeId × Value → H) :
    ReturnsInHanded {} Try.checked os 11 .any (Rows.walReplaySpec.pre6 enc Try.prog Try.f11 Rows.walReplayRow.domain false) (Rows.walReplaySpec.post enc Try.prog Try.f11 false true false false) := by
  refine returnsInHanded_of_change_sized (C := Try.checked) own started (by kernel_rfl) Try.func11
    (ChangeSpec.witness6 (enc := enc) (C := Try.checked) false ⟨#[], #[.slice none 0 0, .slice none 0 0, .agg #[.int .i64 0, .slice none 0 0]], []⟩ 8 (by kernel_rfl) (by kernel_rfl) (by kernel_rfl) (by kernel_rfl)) ?_
  intro W base args ds gs before hval0 hW hcnd hsz0 _
  have hsz : (DataW.weightsEach Try.prog (Try.f11.params.toList ++ Rows.walReplaySpec.plain.varTypes Try.prog) (ds ++ gs)).all (· ≤ reachBytes) = true := hsz0
  clear hsz0
  have hval : ∀ (j : Nat) t v, Try.f11.params[j]? = some t → args[j]? = some v → Value.okWide Try.prog W .any base t v := hval0
  have hW' := hW
  obtain ⟨p, q, hA0, hV, rfl, hfz, hnd⟩ := hW
  have hA : DataW.TrodAll enc Try.prog W 0 (fun _ => true) true Try.f11.params.toList args.toList ds p := hA0
  rw [Try.params11] at hA hval hsz
  obtain ⟨v0, vs0, d0, ds0, p0, q0, hargs, rfl, rfl, h0, r0⟩ := trodAll_cons hA
  obtain ⟨v1, vs1, d1, ds1, p1, q1, rfl, rfl, rfl, h1, r1⟩ := trodAll_cons r0
  obtain ⟨v2, vs2, d2, ds2, p2, q2, rfl, rfl, rfl, h2, r2⟩ := trodAll_cons r1
  obtain ⟨rfl, rfl, rfl⟩ := trodAll_nil r2
  obtain rfl : args = #[v0, v1, v2] := by cases args; simp_all
  obtain ⟨rfl, rfl⟩ := trodVars_none hV
  obtain ⟨a0, l0, c0, rfl⟩ := okWide_slice Try.underlying65 (hval 0 65 v0 rfl rfl)
  obtain ⟨a1, l1, c1, rfl⟩ := okWide_slice Try.underlying23 (hval 1 23 v1 rfl rfl)
  obtain ⟨at_, a2, l2, c2, ks, rfl, hks⟩ := crash_rd (hval 2 73 v2 rfl rfl) h2
  have k0 := h0
  have k1 := h1
  have k2 := h2
  have lt0 : ∀ x ∈ p0, x.block < W.heap.size := by obtain ⟨m, hm⟩ := k0; exact DataW.trod_lt m _ _ _ hm
  have lt1 : ∀ x ∈ p1, x.block < W.heap.size := by obtain ⟨m, hm⟩ := k1; exact DataW.trod_lt m _ _ _ hm
  have lt2 : ∀ x ∈ p2, x.block < W.heap.size := by obtain ⟨m, hm⟩ := k2; exact DataW.trod_lt m _ _ _ hm
  obtain ⟨f0, e0⟩ := h0
  obtain ⟨f1, e1⟩ := h1
  obtain ⟨rs, hr, _, hrl, _⟩ := recsR_of e0 (fun n hn => by
    have := List.all_eq_true.1 hsz n (DataW.weights_mem_each (j := 0) (t := 65) rfl rfl n hn)
    simpa using this)
  obtain ⟨V1, m1, rd1, ok1⟩ := slice1_rd Try.underlying23 (by kernel_rfl) (p := fun V => ∃ b, V = .bool b) (fun V n y h => bool_of Try.underlying4 h) e1
  obtain ⟨kb, hkb⟩ := choose_lt ok1
  have g1 : SlRd W a1 l1 1 (fun i _ => .bool (kb i)) := fun hp => by
    obtain ⟨b, o, e, hl, hc⟩ := rd1 hp
    exact ⟨b, o, e, hl, fun i j hi hj => by rw [hc i j hi hj]; congr 1; exact hkb i hi⟩
  clear hA0 hval0
  refine (replay_walk _ _ _ l0 c0 l1 c1 l2 c2 at_ rs kb ks W hr (fun r hr => Nat.le_trans (hrl r hr) (by unfold reachBytes; omega)) g1 (by unfold maxLen at m1; omega) hks).mono fun e W' ⟨he, bel⟩ => ?_
  subst he
  exact ⟨_, rfl, _, _, _, [], _, [], hW', trodAll_mk1 (shut_bool Try.underlying4 _), (trodAll_cons_mk (Below.trod laidOut (by kernel_rfl) (of_decide_eq_true (by kernel_rfl)) k0 bel lt0) (trodAll_cons_mk (Below.trod laidOut (by kernel_rfl) (of_decide_eq_true (by kernel_rfl)) k1 bel lt1) (trodAll_cons_mk (Below.trod laidOut (by kernel_rfl) (of_decide_eq_true (by kernel_rfl)) k2 bel lt2) trodAll_mk0))), rfl, bel.frame _, fun h => by cases h⟩
theorem walReplay_proved : Rows.WalReplaySaid :=
  OpenClaim.holds_of_wide 11 Try.f11 rfl rfl rfl rfl rfl rfl rfl ⟨rfl, rfl, rfl, rfl, rfl⟩ rfl rfl rfl rfl rfl (by kernel_rfl) Try.func11 (by kernel_rfl)
    (of_decide_eq_true (by kernel_rfl)) (by unfold Func.isWrapper; first | (rw [if_pos (by decide +kernel)]; kernel_rfl) | (rw [if_neg (by decide +kernel)]; exact ⟨rfl, rfl⟩))
    (fun os started H enc _ => replay_lifted os started H enc)
#print axioms walReplay_proved
end Go.Proofs.Ytihpobpkhhkejaa
