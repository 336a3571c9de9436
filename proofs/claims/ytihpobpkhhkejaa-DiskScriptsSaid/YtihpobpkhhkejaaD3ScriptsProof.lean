/-
  DiskScripts: for every two sizes and every script the law returns true, and its arguments read as before. No condition.
-/
import Derived.Test.YtihpobpkhhkejaaRowS
import Derived.Test.YtihpobpkhhkejaaD3Scripts
set_option autoImplicit false
namespace Go.Proofs.Ytihpobpkhhkejaa
open Go.ChangeShapes Go.WideShapes Go.ChangeAt Go.RowKit Go.Deep

theorem bools_rd (w : World) (F : Nat → Prop) (a : Option Addr) (l c : Nat) (kb : Nat → Bool) (hl : l ≤ maxLen) (h : SlRd w a l 1 (fun i _ => .bool (kb i))) (hF : ∀ k, k < w.heap.size → ¬ F k) :
    BoolsAt w F (.slice a l c) ((List.range l).map kb) := by
  refine ⟨a, c, by simp, by simpa [maxLen] using hl, fun hk => ?_⟩
  obtain ⟨b, o, rfl, hb, hc⟩ := h (by simpa using hk)
  refine ⟨b, o, rfl, hF b hb, fun i k hi => ?_⟩
  have hi2 : i < l := by
    have := (List.getElem?_eq_some_iff.1 hi).1
    simpa using this
  have := hc i 0 hi2 (by omega)
  simp only [Nat.mul_one, Nat.add_zero] at this
  rw [this]
  simp [hi2] at hi
  rw [hi]

theorem opFields3 : ∃ fs : Array Field, Try.prog.underlying 54 = some (.struct fs) ∧ oneCellFields Try.prog fs = true ∧ Try.prog.cellsOf 54 = fs.size ∧ fs.size = 5 ∧ (∃ f, fs[0]? = some f ∧ f.type = 3) ∧ (∃ f, fs[1]? = some f ∧ f.type = 3) ∧ (∃ f, fs[2]? = some f ∧ f.type = 3) ∧ (∃ f, fs[3]? = some f ∧ f.type = 5) ∧ (∃ f, fs[4]? = some f ∧ f.type = 23) :=
  ⟨_, Try.underlying54, by kernel_rfl, by kernel_rfl, rfl, ⟨_, rfl, rfl⟩, ⟨_, rfl, rfl⟩, ⟨_, rfl, rfl⟩, ⟨_, rfl, rfl⟩, ⟨_, rfl, rfl⟩⟩
theorem bytesOp3 : Try.prog.bytesOf 54 = 56 := by kernel_rfl
set_option maxRecDepth 100000 in
/-- what the walk of the scripts wants of them -/
theorem ops_rd {H : Type} {enc : TypeId × Value → H} {w : World} {base : Nat} {held : Bool} {fuel : Nat} {ao : Option Addr} {len cap : Nat} {x : DataW H × List MemPlace}
    (h : DataW.trod enc Try.prog w base (fun _ => true) held fuel 48 (Value.slice ao len cap).cells.toList = some x) :
    ∃ (K On N S : Nat → Int) (ka : Nat → Option Addr) (kl kc : Nat → Nat) (ks : Nat → List Bool), len ≤ maxLen ∧ (len = 0 ∨ ∃ el sp, x.1 = .slice el sp ∧ el.length = len) ∧
      SlRd w ao len 5 (fun i j => if j = 0 then .int .i64 (K i) else if j = 1 then .int .i64 (On i) else if j = 2 then .int .i64 (N i) else if j = 3 then .int .u8 (S i) else .slice (ka i) (kl i) (kc i)) ∧
      (∀ i, i < len → BoolsAt w (fun x => w.heap.size ≤ x) (.slice (ka i) (kl i) (kc i)) (ks i)) ∧ (∀ i, i < len → -9223372036854775808 ≤ On i ∧ On i ≤ 9223372036854775807 ∧ N i ≤ 9223372036854775807) := by
  obtain ⟨fs, hu, hone, hC, h5, ⟨f0, e0, t0⟩, ⟨f1, e1, t1⟩, ⟨f2, e2, t2⟩, ⟨f3, e3, t3⟩, ⟨f4, e4, t4⟩⟩ := opFields3
  obtain ⟨V, hm, hrd, hel, hf⟩ := fields_rd Try.underlying48 hu hone hC (by omega) h
  have g0 : ∀ i, i < len → V i 0 = .int .i64 (intOf (V i 0)) := fun i hi => by
    obtain ⟨n, y, h0⟩ := hf i hi 0 f0 e0
    rw [t0] at h0
    exact (i64_of Try.underlying3 h0).1
  have g1 : ∀ i, i < len → V i 1 = .int .i64 (intOf (V i 1)) ∧ -9223372036854775808 ≤ intOf (V i 1) ∧ intOf (V i 1) ≤ 9223372036854775807 := fun i hi => by
    obtain ⟨n, y, h0⟩ := hf i hi 1 f1 e1
    rw [t1] at h0
    exact i64_of Try.underlying3 h0
  have g2 : ∀ i, i < len → V i 2 = .int .i64 (intOf (V i 2)) ∧ -9223372036854775808 ≤ intOf (V i 2) ∧ intOf (V i 2) ≤ 9223372036854775807 := fun i hi => by
    obtain ⟨n, y, h0⟩ := hf i hi 2 f2 e2
    rw [t2] at h0
    exact i64_of Try.underlying3 h0
  have g3 : ∀ i, i < len → V i 3 = .int .u8 (intOf (V i 3)) := fun i hi => by
    obtain ⟨n, y, h0⟩ := hf i hi 3 f3 e3
    rw [t3] at h0
    exact (u8_of Try.underlying5 h0).1
  have g4 : ∀ i, i < len → ∃ q : Option Addr × Nat × Nat × List Bool, V i 4 = .slice q.1 q.2.1 q.2.2.1 ∧ BoolsAt w (fun x => w.heap.size ≤ x) (.slice q.1 q.2.1 q.2.2.1) q.2.2.2 := fun i hi => by
    obtain ⟨n, y, h0⟩ := hf i hi 4 f4 e4
    rw [t4] at h0
    obtain ⟨ka, kl, kc, hV⟩ := slice_form Try.underlying23 h0
    rw [hV] at h0
    obtain ⟨VB, m2, rd2, ok2⟩ := slice1_rd Try.underlying23 (by kernel_rfl) (p := fun V => ∃ b, V = .bool b) (fun V n y h => bool_of Try.underlying4 h) (show DataW.trod enc Try.prog w base (fun _ => true) held n 23 (Value.slice ka kl kc).cells.toList = some y from h0)
    obtain ⟨kb, hkb⟩ := choose_lt ok2
    have rdb : SlRd w ka kl 1 (fun i _ => .bool (kb i)) := fun hp => by
      obtain ⟨b, o, e, hl, hc⟩ := rd2 hp
      exact ⟨b, o, e, hl, fun i j hi hj => by rw [hc i j hi hj]; congr 1; exact hkb i hi⟩
    exact ⟨(ka, kl, kc, (List.range kl).map kb), hV, bools_rd w _ ka kl kc kb m2 rdb (fun k hk => by omega)⟩
  obtain ⟨q, hq⟩ := choose_lt g4
  refine ⟨fun i => intOf (V i 0), fun i => intOf (V i 1), fun i => intOf (V i 2), fun i => intOf (V i 3), fun i => (q i).1, fun i => (q i).2.1, fun i => (q i).2.2.1, fun i => (q i).2.2.2, hm, hel, fun hp => ?_, fun i hi => (hq i hi).2, fun i hi => ⟨(g1 i hi).2.1, (g1 i hi).2.2, (g2 i hi).2.2⟩⟩
  obtain ⟨b, o, e, hl, hc⟩ := hrd hp
  rw [h5] at hc
  refine ⟨b, o, e, hl, fun i j hi hj => ?_⟩
  rw [hc i j hi hj]
  match j, hj with
  | 0, _ => exact congrArg some (g0 i hi)
  | 1, _ => exact congrArg some (g1 i hi).1
  | 2, _ => exact congrArg some (g2 i hi).1
  | 3, _ => exact congrArg some (g3 i hi)
  | 4, _ => exact congrArg some (hq i hi).1
set_option maxRecDepth 100000 in
/-- two numbers in an array, by value -/
theorem sizes_rd {H : Type} {enc : TypeId × Value → H} {w : World} {base b0 : Nat} {spare : Nat → Bool} {held : Bool} {v : Value} {d : DataW H} {p : List MemPlace} {r : Reach} (hv : Value.okWide Try.prog w r b0 47 v) (h : DataW.Trod enc Try.prog w base spare held 47 v d p) :
    ∃ s0 s1, v = .agg #[.int .i64 s0, .int .i64 s1] := by
  have hu := Try.underlying47
  simp only [Value.okWide, hu] at hv
  obtain ⟨cs, rfl, hsz, _⟩ := hv
  have hc2 : Try.prog.cellsOf 47 = 2 := by kernel_rfl
  have hc1 : Try.prog.cellsOf 3 = 1 := by kernel_rfl
  obtain ⟨l⟩ := cs
  match l, hsz.trans hc2 with
  | [c0, c1], _ =>
    obtain ⟨fuel, hf⟩ := h
    obtain ⟨xs, n, _, _, _, hlen, hg⟩ := DataW.trod_array hu hf
    match xs, hlen with
    | [y0, y1], _ =>
      have h0 := hg 0 (by omega)
      have h1 := hg 1 (by omega)
      rw [hc1] at h0 h1
      simp [Value.cells] at h0 h1
      exact ⟨intOf c0, intOf c1, by rw [← (i64_of Try.underlying3 h0).1, ← (i64_of Try.underlying3 h1).1]⟩
set_option maxRecDepth 100000 in
theorem scripts_lifted (os : Os) (started : os.Started) (H : Type) (enc : TypeId × Value → H) :
    ReturnsInHanded {} Try.checked os 7 .any (Rows.diskScriptsSpec.pre6 enc Try.prog Try.f7 Rows.diskScriptsRow.domain false) (Rows.diskScriptsSpec.post enc Try.prog Try.f7 false true false false) := by
  refine returnsInHanded_of_change_sized (C := Try.checked) own started (by kernel_rfl) Try.func7
    (ChangeSpec.witness6 (enc := enc) (C := Try.checked) false ⟨#[], #[.agg #[.int .i64 0, .int .i64 0], .slice none 0 0], []⟩ 8 (by kernel_rfl) (by kernel_rfl) (by kernel_rfl) (by kernel_rfl)) ?_
  intro W base args ds gs before hval0 hW hcnd hsz0 _
  have hsz : (DataW.weightsEach Try.prog (Try.f7.params.toList ++ Rows.diskScriptsSpec.plain.varTypes Try.prog) (ds ++ gs)).all (· ≤ reachBytes) = true := hsz0
  clear hsz0
  have hval : ∀ (j : Nat) t v, Try.f7.params[j]? = some t → args[j]? = some v → Value.okWide Try.prog W .any base t v := hval0
  have hW' := hW
  obtain ⟨p, q, hA0, hV, rfl, hfz, hnd⟩ := hW
  have hA : DataW.TrodAll enc Try.prog W 0 (fun _ => true) true Try.f7.params.toList args.toList ds p := hA0
  rw [Try.params7] at hA hval hsz
  obtain ⟨v0, vs0, d0, ds0, p0, q0, hargs, rfl, rfl, h0, r0⟩ := trodAll_cons hA
  obtain ⟨v1, vs1, d1, ds1, p1, q1, rfl, rfl, rfl, h1, r1⟩ := trodAll_cons r0
  obtain ⟨rfl, rfl, rfl⟩ := trodAll_nil r1
  obtain rfl : args = #[v0, v1] := by cases args; simp_all
  obtain ⟨rfl, rfl⟩ := trodVars_none hV
  obtain ⟨s0, s1, rfl⟩ := sizes_rd (hval 0 47 v0 rfl rfl) h0
  obtain ⟨a1, l1, c1, rfl⟩ := okWide_slice Try.underlying48 (hval 1 48 v1 rfl rfl)
  have k0 := h0
  have k1 := h1
  have lt0 : ∀ x ∈ p0, x.block < W.heap.size := by obtain ⟨m, hm⟩ := k0; exact DataW.trod_lt m _ _ _ hm
  have lt1 : ∀ x ∈ p1, x.block < W.heap.size := by obtain ⟨m, hm⟩ := k1; exact DataW.trod_lt m _ _ _ hm
  obtain ⟨f1, e1⟩ := h1
  obtain ⟨K, On, N, S, ka, kl, kc, ks, hm, hel, hrd, hbs, hr⟩ := ops_rd e1
  have hlen : l1 ≤ 2900000000000 := by
    rcases hel with h | ⟨el, sp, hx, hl⟩
    · omega
    · have := sized_slice hsz (j := 1) (t := 48) (e := 54) (elems := el) (spare := sp) rfl (by rw [← hx]; rfl) Try.underlying48
      rw [bytesOp3, hl] at this
      unfold reachBytes at this
      omega
  clear hA0 hval0
  refine (scripts_walk s0 s1 a1 l1 c1 K On N S ka kl kc ks W hlen hrd hbs hr).mono fun e W' ⟨he, bel⟩ => ?_
  subst he
  exact ⟨_, rfl, _, _, _, [], _, [], hW', trodAll_mk1 (shut_bool Try.underlying4 _), (trodAll_cons_mk (Below.trod laidOut (by kernel_rfl) (of_decide_eq_true (by kernel_rfl)) k0 bel lt0) (trodAll_cons_mk (Below.trod laidOut (by kernel_rfl) (of_decide_eq_true (by kernel_rfl)) k1 bel lt1) trodAll_mk0)), rfl, bel.frame _, fun h => by cases h⟩
theorem diskScripts_proved : Rows.DiskScriptsSaid :=
  OpenClaim.holds_of_wide 7 Try.f7 rfl rfl rfl rfl rfl rfl rfl ⟨rfl, rfl, rfl, rfl, rfl⟩ rfl rfl rfl rfl rfl (by kernel_rfl) Try.func7 (by kernel_rfl)
    (of_decide_eq_true (by kernel_rfl)) (by unfold Func.isWrapper; first | (rw [if_pos (by decide +kernel)]; kernel_rfl) | (rw [if_neg (by decide +kernel)]; exact ⟨rfl, rfl⟩))
    (fun os started H enc _ => scripts_lifted os started H enc)
#print axioms diskScripts_proved
end Go.Proofs.Ytihpobpkhhkejaa
