/-
  WalScripts: for every size and every script the law returns true, and its arguments read as before. No condition.
-/
import Derived.Test.YtihpobpkhhkejaaWRowB
import Derived.Test.YtihpobpkhhkejaaWScr
set_option autoImplicit false
namespace Go.Proofs.Ytihpobpkhhkejaa
open Go.ChangeShapes Go.WideShapes Go.ChangeAt Go.RowKit Go.Deep

section
variable {H : Type} {enc : TypeId × Value → H} {P : Program} {w : World} {base : Nat} {held : Bool}
theorem weights_allP {e : TypeId} : ∀ (l : List (DataW H)) (d : DataW H), d ∈ l → ∀ n ∈ d.weights P e, n ∈ DataW.weightsAll P e l
  | [], _, h, _, _ => by cases h
  | y :: l, d, h, n, hn => by
    simp only [DataW.weightsAll, List.mem_append]
    rcases List.mem_cons.1 h with rfl | h
    · exact .inl hn
    · exact .inr (weights_allP l d h n hn)
theorem fields_rdw {t e : TypeId} {fs : Array Field} {fuel : Nat} {ao : Option Addr} {len cap : Nat} {x : DataW H × List MemPlace} (ht : P.underlying t = some (.slice e)) (he : P.underlying e = some (.struct fs))
    (hone : oneCellFields P fs = true) (hC : P.cellsOf e = fs.size) (h0 : 0 < fs.size) (h : DataW.trod enc P w base (fun _ => true) held fuel t (Value.slice ao len cap).cells.toList = some x) :
    ∃ V : Nat → Nat → Value, len ≤ maxLen ∧ SlRd w ao len fs.size V ∧ (len = 0 ∨ ∃ el sp, x.1 = .slice el sp ∧ el.length = len) ∧
      ∀ i, i < len → ∀ j f, fs[j]? = some f → ∃ n y, DataW.trod enc P w base (fun _ => true) held n f.type [V i j] = some y ∧ ∀ m ∈ y.1.weights P f.type, m ∈ x.1.weights P t := by
  rcases open_slice ht h with ⟨hcs, _⟩ | ⟨a, l, c, m, n, D, Pl, hcs, _, hl, hm, hmm, hx, hc⟩
  · simp [Value.cells] at hcs
    obtain ⟨rfl, rfl, rfl⟩ := hcs
    exact ⟨fun _ _ => undef, Nat.zero_le _, fun h => by omega, .inl rfl, fun i hi => by omega⟩
  · simp [Value.cells] at hcs
    obtain ⟨rfl, rfl, rfl⟩ := hcs
    simp only [if_true] at hmm
    have each : ∀ i, i < len → ∀ (j : Nat) (f : Field), fs[j]? = some f → ∃ (v : Value) (n' : Nat) (y : DataW H × List MemPlace), w.cell? (a.add (i * fs.size + j)) = some v ∧ DataW.trod enc P w base (fun _ => true) held n' f.type [v] = some y ∧ ∀ m ∈ y.1.weights P f.type, m ∈ x.1.weights P t := by
      intro i hi j f hj
      obtain ⟨cs', hc', ht'⟩ := hc i (by omega)
      rw [hC] at hc'
      obtain ⟨ys, n', hn', hy, hlen, hyl, hf⟩ := DataW.trod_struct he ht'
      obtain ⟨_, hcl, hat⟩ := World.cells?_some hc'
      obtain ⟨ho, hk⟩ := hone_of hone j f hj
      have hjl : j < fs.size := (Array.getElem?_eq_some_iff.1 hj).1
      have hcell := hat j hjl
      have hv : cs'[j]? = some (cs'[j]'(by omega)) := List.getElem?_eq_getElem (by omega)
      have h1 := hf j f hj
      rw [ho, hk] at h1
      have hone' : (cs'.drop j).take 1 = [cs'[j]'(by omega)] := by
        rw [List.drop_eq_getElem_cons (by omega)]
        rfl
      rw [hone'] at h1
      have hys : ys[j]? = some (ys[j]'(by omega)) := List.getElem?_eq_getElem (by omega)
      refine ⟨_, _, _, ?_, h1.trans hys, fun m hm => ?_⟩
      · rw [← Go.Deep.add_add, hcell, hv]
      · have hD : D i = .agg (ys.map (·.1)) := congrArg Prod.fst hy
        have hfl : (fs.toList.map (·.type))[j]? = some f.type := by
          rw [List.getElem?_map, Array.getElem?_toList, hj]; rfl
        have hyl2 : (ys.map (·.1))[j]? = some (ys[j]'(by omega)).1 := by rw [List.getElem?_map, hys]; rfl
        have h2 : m ∈ (D i).weights P e := by
          rw [hD]
          simp only [DataW.weights, he]
          exact DataW.weights_mem_each hfl hyl2 m hm
        rw [hx]
        simp only [DataW.weights, ht, List.mem_cons, List.mem_append]
        exact .inr (.inl (weights_allP _ (D i) (List.mem_map.2 ⟨i, List.mem_range.2 hi, rfl⟩) m h2))
    refine ⟨fun i j => (w.cell? (a.add (i * fs.size + j))).getD undef, by omega, fun hpos => ?_, .inr ⟨_, _, by rw [hx], by simp⟩, fun i hi j f hj => ?_⟩
    · obtain ⟨v, _, y, hz, _⟩ := each 0 hpos 0 _ (Array.getElem?_eq_getElem h0)
      have ha := addr_plain hz (by omega)
      refine ⟨a.block, a.off, by rw [← ha], by have := World.block_lt_of_cell? w _ hz; rw [ha] at this; simpa [Addr.add] using this, fun i j hi hj => ?_⟩
      obtain ⟨v', _, y', hz', _⟩ := each i hi j _ (Array.getElem?_eq_getElem hj)
      simp only [hz', Option.getD_some]
      rw [← hz', ha, Addr.add_mid]
      simp [Nat.add_assoc]
    · obtain ⟨v', n', y', hz', ht', hw⟩ := each i hi j f hj
      exact ⟨n', y', by simpa only [hz', Option.getD_some] using ht', hw⟩
end
theorem wbools_rd (w : World) (F : Nat → Prop) (a : Option Addr) (l c : Nat) (kb : Nat → Bool) (hl : l ≤ maxLen) (h : SlRd w a l 1 (fun i _ => .bool (kb i))) (hF : ∀ k, k < w.heap.size → ¬ F k) :
    BoolsAt w F (.slice a l c) ((List.range l).map kb) := by
  refine ⟨a, c, by simp, by simpa [maxLen] using hl, fun hk => ?_⟩
  obtain ⟨b, o, rfl, hb, hc⟩ := h (by simpa using hk)
  refine ⟨b, o, rfl, hF b hb, fun i k hi => ?_⟩
  have hi2 : i < l := by
    have := (List.getElem?_eq_some_iff.1 hi).1
    simpa using this
  have := hc i 0 hi2 (by omega)
  simp only [Nat.mul_one, Nat.add_zero] at this
  rw [this]
  simp [hi2] at hi
  rw [hi]
theorem opFieldsW : ∃ fs : Array Field, Try.prog.underlying 82 = some (.struct fs) ∧ oneCellFields Try.prog fs = true ∧ Try.prog.cellsOf 82 = fs.size ∧ fs.size = 4 ∧ (∃ f, fs[0]? = some f ∧ f.type = 3) ∧ (∃ f, fs[1]? = some f ∧ f.type = 3) ∧ (∃ f, fs[2]? = some f ∧ f.type = 22) ∧ (∃ f, fs[3]? = some f ∧ f.type = 23) :=
  ⟨_, Try.underlying82, by kernel_rfl, by kernel_rfl, rfl, ⟨_, rfl, rfl⟩, ⟨_, rfl, rfl⟩, ⟨_, rfl, rfl⟩, ⟨_, rfl, rfl⟩⟩
theorem bytesWOp : Try.prog.bytesOf 82 = 64 := by kernel_rfl
set_option maxRecDepth 100000 in
/-- what the walk of the scripts wants of them -/
theorem wops_rd {H : Type} {enc : TypeId × Value → H} {w : World} {base : Nat} {held : Bool} {fuel : Nat} {ao : Option Addr} {len cap : Nat} {x : DataW H × List MemPlace}
    (h : DataW.trod enc Try.prog w base (fun _ => true) held fuel 77 (Value.slice ao len cap).cells.toList = some x) (hw : ∀ n ∈ x.1.weights Try.prog 77, n ≤ reachBytes) :
    ∃ (K N : Nat → Int) (da ka : Nat → Option Addr) (dl dc kl kc : Nat → Nat) (ds : Nat → List Int) (ks : Nat → List Bool), len ≤ maxLen ∧ (len = 0 ∨ ∃ el sp, x.1 = .slice el sp ∧ el.length = len) ∧
      SlRd w ao len 4 (fun i j => if j = 0 then .int .i64 (K i) else if j = 1 then .int .i64 (N i) else if j = 2 then .slice (da i) (dl i) (dc i) else .slice (ka i) (kl i) (kc i)) ∧
      (∀ i, i < len → BytR w (fun x => w.heap.size ≤ x) (.slice (da i) (dl i) (dc i)) (ds i) ∧ (ds i).length ≤ 140737488355328) ∧
      (∀ i, i < len → BoolsAt w (fun x => w.heap.size ≤ x) (.slice (ka i) (kl i) (kc i)) (ks i)) ∧ (∀ i, i < len → N i ≤ 9223372036854775807) := by
  obtain ⟨fs, hu, hone, hC, h5, ⟨f0, e0, t0⟩, ⟨f1, e1, t1⟩, ⟨f2, e2, t2⟩, ⟨f3, e3, t3⟩⟩ := opFieldsW
  obtain ⟨V, hm, hrd, hel, hf⟩ := fields_rdw Try.underlying77 hu hone hC (by omega) h
  have g0 : ∀ i, i < len → V i 0 = .int .i64 (intOf (V i 0)) := fun i hi => by
    obtain ⟨n, y, h0, _⟩ := hf i hi 0 f0 e0
    rw [t0] at h0
    exact (i64_of Try.underlying3 h0).1
  have g1 : ∀ i, i < len → V i 1 = .int .i64 (intOf (V i 1)) ∧ -9223372036854775808 ≤ intOf (V i 1) ∧ intOf (V i 1) ≤ 9223372036854775807 := fun i hi => by
    obtain ⟨n, y, h0, _⟩ := hf i hi 1 f1 e1
    rw [t1] at h0
    exact i64_of Try.underlying3 h0
  have g2 : ∀ i, i < len → ∃ q : Option Addr × Nat × Nat × List Int, V i 2 = .slice q.1 q.2.1 q.2.2.1 ∧ BytR w (fun x => w.heap.size ≤ x) (.slice q.1 q.2.1 q.2.2.1) q.2.2.2 ∧ q.2.2.2.length ≤ 140737488355328 := fun i hi => by
    obtain ⟨n, y, h0, hy⟩ := hf i hi 2 f2 e2
    rw [t2] at h0 hy
    obtain ⟨ka, kl, kc, hV⟩ := slice_form Try.underlying22 h0
    rw [hV] at h0
    obtain ⟨xs, hb, hxl, hz⟩ := bytR_of (show DataW.trod enc Try.prog w base (fun _ => true) held n 22 (Value.slice ka kl kc).cells.toList = some y from h0)
    refine ⟨(ka, kl, kc, xs), hV, hb, ?_⟩
    rcases hz with h0 | ⟨el, sp, hd, hel⟩
    · show xs.length ≤ _; omega
    · have := weights_u8s hd (fun n hn => hw n (hy n hn))
      unfold reachBytes at this
      show xs.length ≤ _; omega
  have g3 : ∀ i, i < len → ∃ q : Option Addr × Nat × Nat × List Bool, V i 3 = .slice q.1 q.2.1 q.2.2.1 ∧ BoolsAt w (fun x => w.heap.size ≤ x) (.slice q.1 q.2.1 q.2.2.1) q.2.2.2 := fun i hi => by
    obtain ⟨n, y, h0, _⟩ := hf i hi 3 f3 e3
    rw [t3] at h0
    obtain ⟨ka, kl, kc, hV⟩ := slice_form Try.underlying23 h0
    rw [hV] at h0
    obtain ⟨VB, m2, rd2, ok2⟩ := slice1_rd Try.underlying23 (by kernel_rfl) (p := fun V => ∃ b, V = .bool b) (fun V n y h => bool_of Try.underlying4 h) (show DataW.trod enc Try.prog w base (fun _ => true) held n 23 (Value.slice ka kl kc).cells.toList = some y from h0)
    obtain ⟨kb, hkb⟩ := choose_lt ok2
    have rdb : SlRd w ka kl 1 (fun i _ => .bool (kb i)) := fun hp => by
      obtain ⟨b, o, e, hl, hc⟩ := rd2 hp
      exact ⟨b, o, e, hl, fun i j hi hj => by rw [hc i j hi hj]; congr 1; exact hkb i hi⟩
    exact ⟨(ka, kl, kc, (List.range kl).map kb), hV, wbools_rd w _ ka kl kc kb m2 rdb (fun k hk => by omega)⟩
  obtain ⟨p, hp⟩ := choose_lt g2
  obtain ⟨q, hq⟩ := choose_lt g3
  refine ⟨fun i => intOf (V i 0), fun i => intOf (V i 1), fun i => (p i).1, fun i => (q i).1, fun i => (p i).2.1, fun i => (p i).2.2.1, fun i => (q i).2.1, fun i => (q i).2.2.1, fun i => (p i).2.2.2, fun i => (q i).2.2.2, hm, hel, fun hpos => ?_, fun i hi => (hp i hi).2, fun i hi => (hq i hi).2, fun i hi => (g1 i hi).2.2⟩
  obtain ⟨b, o, e, hl, hc⟩ := hrd hpos
  rw [h5] at hc
  refine ⟨b, o, e, hl, fun i j hi hj => ?_⟩
  rw [hc i j hi hj]
  match j, hj with
  | 0, _ => exact congrArg some (g0 i hi)
  | 1, _ => exact congrArg some (g1 i hi).1
  | 2, _ => exact congrArg some (hp i hi).1
  | 3, _ => exact congrArg some (hq i hi).1
set_option maxRecDepth 100000 in
theorem wscripts_lifted (os : Os) (started : os.Started) (H : Type) (enc : TypeId × Value → H) :
    ReturnsInHanded {} Try.checked os 13 .any (Rows.walScriptsSpec.pre6 enc Try.prog Try.f13 Rows.walScriptsRow.domain false) (Rows.walScriptsSpec.post enc Try.prog Try.f13 false true false false) := by
  refine returnsInHanded_of_change_sized (C := Try.checked) own started (by kernel_rfl) Try.func13
    (ChangeSpec.witness6 (enc := enc) (C := Try.checked) false ⟨#[], #[.int .i64 0, .slice none 0 0], []⟩ 8 (by kernel_rfl) (by kernel_rfl) (by kernel_rfl) (by kernel_rfl)) ?_
  intro W base args ds gs before hval0 hW hcnd hsz0 _
  have hsz : (DataW.weightsEach Try.prog (Try.f13.params.toList ++ Rows.walScriptsSpec.plain.varTypes Try.prog) (ds ++ gs)).all (· ≤ reachBytes) = true := hsz0
  clear hsz0
  have hval : ∀ (j : Nat) t v, Try.f13.params[j]? = some t → args[j]? = some v → Value.okWide Try.prog W .any base t v := hval0
  have hW' := hW
  obtain ⟨p, q, hA0, hV, rfl, hfz, hnd⟩ := hW
  have hA : DataW.TrodAll enc Try.prog W 0 (fun _ => true) true Try.f13.params.toList args.toList ds p := hA0
  rw [Try.params13] at hA hval hsz
  obtain ⟨v0, vs0, d0, ds0, p0, q0, hargs, rfl, rfl, h0, r0⟩ := trodAll_cons hA
  obtain ⟨v1, vs1, d1, ds1, p1, q1, rfl, rfl, rfl, h1, r1⟩ := trodAll_cons r0
  obtain ⟨rfl, rfl, rfl⟩ := trodAll_nil r1
  obtain rfl : args = #[v0, v1] := by cases args; simp_all
  obtain ⟨rfl, rfl⟩ := trodVars_none hV
  have k0 := h0
  obtain ⟨n, rfl, rfl, rfl, _⟩ := open_int Try.underlying3 (hval 0 3 v0 rfl rfl) h0
  obtain ⟨a1, l1, c1, rfl⟩ := okWide_slice Try.underlying77 (hval 1 77 v1 rfl rfl)
  have k1 := h1
  have lt0 : ∀ x ∈ ([] : List MemPlace), x.block < W.heap.size := fun x hx => by cases hx
  have lt1 : ∀ x ∈ p1, x.block < W.heap.size := by obtain ⟨m, hm⟩ := k1; exact DataW.trod_lt m _ _ _ hm
  obtain ⟨f1, e1⟩ := h1
  obtain ⟨K, N, da, ka, dl, dc, kl, kc, xs, ks, hm, hel, hrd, hds, hbs, hr⟩ := wops_rd e1 (fun n hn => by
    have := List.all_eq_true.1 hsz n (DataW.weights_mem_each (j := 1) (t := 77) rfl rfl n hn)
    simpa using this)
  have hlen : l1 ≤ 2300000000000 := by
    rcases hel with h | ⟨el, sp, hx, hl⟩
    · omega
    · have := sized_slice hsz (j := 1) (t := 77) (e := 82) (elems := el) (spare := sp) rfl (by rw [← hx]; rfl) Try.underlying77
      rw [bytesWOp, hl] at this
      unfold reachBytes at this
      omega
  clear hA0 hval0
  refine (wscripts_walk n a1 l1 c1 K N da ka dl dc kl kc xs ks W hlen hrd hds hbs hr).mono fun e W' ⟨he, chg⟩ => ?_
  have bel : Below W.heap.size W W' := chg.below (fun _ h => h.elim) (Nat.le_refl _)
  subst he
  exact ⟨_, rfl, _, _, _, [], _, [], hW', trodAll_mk1 (shut_bool Try.underlying4 _), (trodAll_cons_mk (Below.trod laidOut (by kernel_rfl) (of_decide_eq_true (by kernel_rfl)) k0 bel lt0) (trodAll_cons_mk (Below.trod laidOut (by kernel_rfl) (of_decide_eq_true (by kernel_rfl)) k1 bel lt1) trodAll_mk0)), rfl, bel.frame _, fun h => by cases h⟩
theorem walScripts_proved : Rows.WalScriptsSaid :=
  OpenClaim.holds_of_wide 13 Try.f13 rfl rfl rfl rfl rfl rfl rfl ⟨rfl, rfl, rfl, rfl, rfl⟩ rfl rfl rfl rfl rfl (by kernel_rfl) Try.func13 (by kernel_rfl)
    (of_decide_eq_true (by kernel_rfl)) (by unfold Func.isWrapper; first | (rw [if_pos (by decide +kernel)]; kernel_rfl) | (rw [if_neg (by decide +kernel)]; exact ⟨rfl, rfl⟩))
    (fun os started H enc _ => wscripts_lifted os started H enc)
#print axioms walScripts_proved
end Go.Proofs.Ytihpobpkhhkejaa
