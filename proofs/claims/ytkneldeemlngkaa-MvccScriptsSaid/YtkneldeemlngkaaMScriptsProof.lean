/-
  MvccScripts: for every start and every script the law returns true, and its arguments read as before. No condition.
-/
import Derived.Test.YtkneldeemlngkaaRowS
import Derived.Test.YtkneldeemlngkaaMScrN
set_option autoImplicit false
namespace Go.Proofs.Ytkneldeemlngkaa
open Go.ChangeShapes Go.WideShapes Go.ChangeAt Go.RowKit Go.Deep
def opsV (K T U : Nat → Int) (i j : Nat) : Value := if j = 0 then .int .i64 (K i) else if j = 1 then .int .i64 (T i) else .int .i64 (U i)

theorem opFields19 : ∃ fs : Array Field, Try.prog.underlying 43 = some (.struct fs) ∧ oneCellFields Try.prog fs = true ∧ Try.prog.cellsOf 43 = fs.size ∧ fs.size = 3 ∧ (∃ f, fs[0]? = some f ∧ f.type = 3) ∧ (∃ f, fs[1]? = some f ∧ f.type = 3) ∧ (∃ f, fs[2]? = some f ∧ f.type = 3) :=
  ⟨_, Try.underlying43, by kernel_rfl, by kernel_rfl, rfl, ⟨_, rfl, rfl⟩, ⟨_, rfl, rfl⟩, ⟨_, rfl, rfl⟩⟩
def inR (x : Int) : Prop := -9223372036854775808 ≤ x ∧ x ≤ 9223372036854775807
set_option maxRecDepth 100000 in
theorem ops19_rd {H : Type} {enc : TypeId × Value → H} {w : World} {base : Nat} {held : Bool} {fuel : Nat} {ao : Option Addr} {len cap : Nat} {x : DataW H × List MemPlace}
    (h : DataW.trod enc Try.prog w base (fun _ => true) held fuel 37 (Value.slice ao len cap).cells.toList = some x) :
    ∃ (K T U : Nat → Int), len ≤ maxLen ∧ SlRd w ao len 3 (opsV K T U) ∧ ∀ i, i < len → inR (K i) ∧ inR (T i) ∧ inR (U i) := by
  obtain ⟨fs, hu, hone, hC, h3, ⟨f0, e0, t0⟩, ⟨f1, e1, t1⟩, ⟨f2, e2, t2⟩⟩ := opFields19
  obtain ⟨V, hm, hrd, hel, hf⟩ := fields_rd Try.underlying37 hu hone hC (by omega) h
  have g0 : ∀ i, i < len → V i 0 = .int .i64 (intOf (V i 0)) ∧ inR (intOf (V i 0)) := fun i hi => by
    obtain ⟨n, y, h0⟩ := hf i hi 0 f0 e0
    rw [t0] at h0
    exact i64_of Try.underlying3 h0
  have g1 : ∀ i, i < len → V i 1 = .int .i64 (intOf (V i 1)) ∧ inR (intOf (V i 1)) := fun i hi => by
    obtain ⟨n, y, h0⟩ := hf i hi 1 f1 e1
    rw [t1] at h0
    exact i64_of Try.underlying3 h0
  have g2 : ∀ i, i < len → V i 2 = .int .i64 (intOf (V i 2)) ∧ inR (intOf (V i 2)) := fun i hi => by
    obtain ⟨n, y, h0⟩ := hf i hi 2 f2 e2
    rw [t2] at h0
    exact i64_of Try.underlying3 h0
  refine ⟨fun i => intOf (V i 0), fun i => intOf (V i 1), fun i => intOf (V i 2), hm, fun hp => ?_, fun i hi => ⟨(g0 i hi).2, (g1 i hi).2, (g2 i hi).2⟩⟩
  obtain ⟨b, o, e, hl, hc⟩ := hrd hp
  rw [h3] at hc
  refine ⟨b, o, e, hl, fun i j hi hj => ?_⟩
  rw [hc i j hi hj]
  match j, hj with
  | 0, _ => exact congrArg some (g0 i hi).1
  | 1, _ => exact congrArg some (g1 i hi).1
  | 2, _ => exact congrArg some (g2 i hi).1
theorem startFields : ∃ fs : Array Field, Try.prog.underlying 36 = some (.struct fs) ∧ oneCellFields Try.prog fs = true ∧ Try.prog.cellsOf 36 = fs.size ∧ fs.size = 3 ∧ (∃ f, fs[0]? = some f ∧ f.type = 3) ∧ (∃ f, fs[1]? = some f ∧ f.type = 3) ∧ (∃ f, fs[2]? = some f ∧ f.type = 28) :=
  ⟨_, Try.underlying36, by kernel_rfl, by kernel_rfl, rfl, ⟨_, rfl, rfl⟩, ⟨_, rfl, rfl⟩, ⟨_, rfl, rfl⟩⟩
set_option maxRecDepth 100000 in
/-- what New is handed, by value -/
theorem start_rd {H : Type} {enc : TypeId × Value → H} {w : World} {base b0 : Nat} {held : Bool} {v : Value} {d : DataW H} {p : List MemPlace} {r : Reach} (hv : Value.okWide Try.prog w r b0 36 v) (h : DataW.Trod enc Try.prog w base (fun _ => true) held 36 v d p) :
    ∃ (a b : Int) (ao : Option Addr) (l c : Nat) (V : Nat → Int), v = .agg #[.int .i64 a, .int .i64 b, .slice ao l c] ∧ b ≤ 9223372036854775807 ∧ l ≤ maxLen ∧ SlRd w ao l 1 (fun i _ => .int .i64 (V i)) := by
  obtain ⟨fs, hu, hone, hC, h2, ⟨f0, e0, t0⟩, ⟨f1, e1, t1⟩, ⟨f2, e2, t2⟩⟩ := startFields
  simp only [Value.okWide, hu] at hv
  obtain ⟨cs, rfl, hsz, _⟩ := hv
  obtain ⟨l⟩ := cs
  rw [hC, h2] at hsz
  match l, hsz with
  | [x0, x1, x2], _ =>
    obtain ⟨fuel, hf⟩ := h
    obtain ⟨ys, n', hn', hy, hlen, hyl, hfld⟩ := DataW.trod_struct hu hf
    have hg : ∀ (j : Nat) (f : Field) (x : Value), fs[j]? = some f → [x0, x1, x2][j]? = some x → ∃ y, DataW.trod enc Try.prog w base (fun _ => true) held n' f.type [x] = some y := by
      intro j f x hj hx
      obtain ⟨ho, hk⟩ := hone_of hone j f hj
      have hjl : j < fs.size := (Array.getElem?_eq_some_iff.1 hj).1
      have h1 := hfld j f hj
      rw [ho, hk] at h1
      have hone' : (((Value.agg [x0, x1, x2].toArray).cells.toList).drop j).take 1 = [x] := by
        have hjl2 : j < [x0, x1, x2].length := by simp; omega
        show ([x0, x1, x2].drop j).take 1 = [x]
        rw [List.drop_eq_getElem_cons hjl2]
        rw [List.getElem?_eq_getElem hjl2] at hx
        rw [← Option.some.inj hx]
        rfl
      rw [hone'] at h1
      have hys : ys[j]? = some (ys[j]'(by omega)) := List.getElem?_eq_getElem (by omega)
      exact ⟨_, h1.trans hys⟩
    obtain ⟨y0, g0⟩ := hg 0 f0 x0 e0 rfl
    obtain ⟨y1, g1⟩ := hg 1 f1 x1 e1 rfl
    obtain ⟨y2, g2⟩ := hg 2 f2 x2 e2 rfl
    rw [t0] at g0
    rw [t1] at g1
    rw [t2] at g2
    have hx0 := (i64_of Try.underlying3 g0).1
    have hx1 := i64_of Try.underlying3 g1
    obtain ⟨ka, kl, kc, rfl⟩ := slice_form Try.underlying28 g2
    obtain ⟨VB, m2, rd2, ok2⟩ := slice1_rd Try.underlying28 (by kernel_rfl) (p := fun V => V = .int .i64 (RowKit.intOf V)) (fun V n y h => (i64_of Try.underlying3 h).1) (show DataW.trod enc Try.prog w base (fun _ => true) held n' 28 (Value.slice ka kl kc).cells.toList = some y2 from g2)
    refine ⟨RowKit.intOf x0, RowKit.intOf x1, ka, kl, kc, fun i => RowKit.intOf (VB i), by rw [← hx0, ← hx1.1], hx1.2.2, m2, fun hp => ?_⟩
    obtain ⟨b, o, e, hl, hc⟩ := rd2 hp
    exact ⟨b, o, e, hl, fun i j hi hj => by rw [hc i j hi hj]; congr 1; exact ok2 i hi⟩
theorem bytesMOp : Try.prog.bytesOf 43 = 24 := by kernel_rfl
set_option maxRecDepth 100000 in
theorem mscripts_lifted (os : Os) (started : os.Started) (H : Type) (enc : TypeId × Value → H) :
    ReturnsInHanded {} Try.checked os 4 .any (Rows.mvccScriptsSpec.pre6 enc Try.prog Try.f4 Rows.mvccScriptsRow.domain false) (Rows.mvccScriptsSpec.post enc Try.prog Try.f4 false true false false) := by
  refine returnsInHanded_of_change_sized (C := Try.checked) own started (by kernel_rfl) Try.func4
    (ChangeSpec.witness6 (enc := enc) (C := Try.checked) false ⟨#[], #[.agg #[.int .i64 0, .int .i64 0, .slice none 0 0], .slice none 0 0], []⟩ 8 (by kernel_rfl) (by kernel_rfl) (by kernel_rfl) (by kernel_rfl)) ?_
  intro W base args ds gs before hval0 hW hcnd hsz0 _
  have hsz : (DataW.weightsEach Try.prog (Try.f4.params.toList ++ Rows.mvccScriptsSpec.plain.varTypes Try.prog) (ds ++ gs)).all (· ≤ reachBytes) = true := hsz0
  clear hsz0
  have hval : ∀ (j : Nat) t v, Try.f4.params[j]? = some t → args[j]? = some v → Value.okWide Try.prog W .any base t v := hval0
  have hW' := hW
  obtain ⟨p, q, hA0, hV, rfl, hfz, hnd⟩ := hW
  have hA : DataW.TrodAll enc Try.prog W 0 (fun _ => true) true Try.f4.params.toList args.toList ds p := hA0
  rw [Try.params4] at hA hval hsz
  obtain ⟨v0, vs0, d0, ds0, p0, q0, hargs, rfl, rfl, h0, r0⟩ := trodAll_cons hA
  obtain ⟨v1, vs1, d1, ds1, p1, q1, rfl, rfl, rfl, h1, r1⟩ := trodAll_cons r0
  obtain ⟨rfl, rfl, rfl⟩ := trodAll_nil r1
  obtain rfl : args = #[v0, v1] := by cases args; simp_all
  obtain ⟨rfl, rfl⟩ := trodVars_none hV
  obtain ⟨sn, sm, sa, sl, sc, sV, rfl, hsm, hsl, hsv⟩ := start_rd (hval 0 36 v0 rfl rfl) h0
  have k0 := h0
  obtain ⟨a1, l1, c1, rfl⟩ := okWide_slice Try.underlying37 (hval 1 37 v1 rfl rfl)
  have k1 := h1
  have lt0 : ∀ x ∈ p0, x.block < W.heap.size := by obtain ⟨m, hm⟩ := k0; exact DataW.trod_lt m _ _ _ hm
  have lt1 : ∀ x ∈ p1, x.block < W.heap.size := by obtain ⟨m, hm⟩ := k1; exact DataW.trod_lt m _ _ _ hm
  obtain ⟨f1, e1⟩ := h1
  obtain ⟨K, T, U, hm, hrd, _⟩ := ops19_rd e1
  have hel : l1 = 0 ∨ ∃ el sp, d1 = .slice el sp ∧ el.length = l1 := by
    rcases open_slice Try.underlying37 e1 with ⟨hcs, _⟩ | ⟨a, l, c, m, n, D, Pl, hcs, _, hl, hm2, hmm, hx, hc⟩
    · simp [Value.cells] at hcs
      exact .inl hcs.2.1
    · simp [Value.cells] at hcs
      obtain ⟨_, rfl, _⟩ := hcs
      exact .inr ⟨_, _, congrArg Prod.fst hx, by simp⟩
  have hlen : l1 ≤ 140737488355328 := by
    rcases hel with h | ⟨el, sp, hx, hl⟩
    · omega
    · have := sized_slice hsz (j := 1) (t := 37) (e := 43) (elems := el) (spare := sp) rfl (by rw [← hx]; rfl) Try.underlying37
      rw [bytesMOp, hl] at this
      unfold reachBytes at this
      omega
  clear hA0 hval0
  have hsl2 : sl ≤ 9223372036854775807 := by unfold maxLen at hsl; omega
  have hwalk : Calls Try.prog 4 #[.agg #[.int .i64 sn, .int .i64 sm, .slice sa sl sc], .slice a1 l1 c1] W fun e w' => e = .returned (.bool true) ∧ Chg (fun _ => False) W w' := by
    by_cases hb : 100 < sn
    · exact mscripts_big sn sm sa sl sc a1 l1 c1 W hb
    · by_cases hok : NewOk sn sm sV sl
      · exact mscripts_ok sn sm sa sl sc sV a1 l1 c1 K T U W hlen hsl2 hsv hrd (by omega) hok
      · exact mscripts_nil sn sm sa sl sc sV a1 l1 c1 K T U W hlen hsl2 hsv hrd (by omega) hok hsm
  refine hwalk.mono fun e W' ⟨he, chg⟩ => ?_
  have bel : Below W.heap.size W W' := chg.below (fun _ h => h.elim) (Nat.le_refl _)
  subst he
  exact ⟨_, rfl, _, _, _, [], _, [], hW', trodAll_mk1 (shut_bool Try.underlying4 _), (trodAll_cons_mk (Below.trod laidOut (by kernel_rfl) (of_decide_eq_true (by kernel_rfl)) k0 bel lt0) (trodAll_cons_mk (Below.trod laidOut (by kernel_rfl) (of_decide_eq_true (by kernel_rfl)) k1 bel lt1) trodAll_mk0)), rfl, bel.frame _, fun h => by cases h⟩
theorem mvccScripts_proved : Rows.MvccScriptsSaid :=
  OpenClaim.holds_of_wide 4 Try.f4 rfl rfl rfl rfl rfl rfl rfl ⟨rfl, rfl, rfl, rfl, rfl⟩ rfl rfl rfl rfl rfl (by kernel_rfl) Try.func4 (by kernel_rfl)
    (of_decide_eq_true (by kernel_rfl)) (by unfold Func.isWrapper; first | (rw [if_pos (by decide +kernel)]; kernel_rfl) | (rw [if_neg (by decide +kernel)]; exact ⟨rfl, rfl⟩))
    (fun os started H enc _ => mscripts_lifted os started H enc)
#print axioms mvccScripts_proved
end Go.Proofs.Ytkneldeemlngkaa
