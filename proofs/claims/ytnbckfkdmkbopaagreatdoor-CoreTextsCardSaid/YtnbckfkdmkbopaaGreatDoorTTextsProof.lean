/-
  CoreTexts: for every text and every row the law returns true, and its arguments read as before. Conditions: what the row lists of the library's variables stands; the card ties it.
-/
import Derived.Test.YtnbckfkdmkbopaaGreatDoorTie
import Derived.Test.YtnbckfkdmkbopaaGreatDoorCards
import Derived.Test.YtnbckfkdmkbopaaGreatDoorTH48
import Derived.Test.YtnbckfkdmkbopaaGreatDoorTH49
set_option autoImplicit false
namespace Go.Proofs.YtnbckfkdmkbopaaGreatDoor
open Go Go.ChangeShapes Go.WideShapes Go.ChangeAt Go.RowKit Go.Deep

theorem pow_tab : (Rows.laid_internal_strconv_uint64pow10 : DataW Unit) = Lib.tabData .u64 Lib.pow10Tab := by kernel_rfl
theorem pow_of {L : List (String × DataW Unit)} {W : World} (hL : laidMetH Tryz.prog L W) (hn : (L.all fun x => x.2.handleName?.isNone) = true) (hm : ("internal/strconv.uint64pow10", Rows.laid_internal_strconv_uint64pow10) ∈ L) : Lib.TabIs Tryz.prog W "internal/strconv.uint64pow10" .u64 Lib.pow10Tab := by
  rw [MakeChecks.laidMetH_plain _ _ _ hn] at hL
  obtain ⟨ps, hv, _⟩ := hL
  obtain ⟨g, t, cs, fuel, p, h1, h2, h3, h4⟩ := laidVars_reads hv _ _ hm
  obtain rfl := Option.some.inj ((show Tryz.prog.globalNamed "internal/strconv.uint64pow10" = some 0 by kernel_rfl).symm.trans h1)
  obtain rfl := Option.some.inj ((show (Tryz.prog.globals[0]?).map (·.type) = some 226 by kernel_rfl).symm.trans h2)
  rw [pow_tab] at h4
  have hc := Lib.cells_of_tab Tryz.underlying226 Tryz.underlying203 (by kernel_rfl) (by kernel_rfl) h4
  unfold Lib.TabIs
  rw [h3, ← hc]
set_option maxRecDepth 100000 in
theorem coreTexts_lifted (os : Os) (started : os.Started) (H : Type) (enc : TypeId × Value → H) :
    ReturnsInHanded {} Tryz.checked os 4 .any (fun w args => (Rows.coreTextsSpec.pre enc Tryz.prog Tryz.f4 Rows.coreTextsRow.domain false w args ∧ laidMetH Tryz.prog Rows.coreTextsRow.laid w) ∧ sizedMet enc Tryz.prog Tryz.f4 (OpenSpec.ofChange Rows.coreTextsSpec) false w args)
      (Rows.coreTextsSpec.post enc Tryz.prog Tryz.f4 false true false false) := by
  refine returnsInHanded_laid_shaped (C := Tryz.checked) (X := fun w _ => laidMetH Tryz.prog Rows.coreTextsRow.laid w) (fun _ _ _ hh h => h.of_heap hh) own started (by kernel_rfl) Tryz.func4
    (ChangeSpec.witness_shaped (enc := enc) (C := Tryz.checked) (os := os) (X := fun w _ => laidMetH Tryz.prog Rows.coreTextsRow.laid w) false (World.laidAll Tryz.prog os Rows.coreTextsRow.laid) #[.string ⟨#[]⟩, .slice none 0 0] 8 (World.laidAll_os _ _ _)
      (World.shaped_of_ZipB (by kernel_rfl) (by kernel_rfl)) (by kernel_rfl) (by kernel_rfl) (by kernel_rfl)
      (by rw [MakeChecks.laidMetH_plain _ _ _ (by kernel_rfl)]; exact laidMet_laidAll _ (by kernel_rfl) (by kernel_rfl))) ?_
  intro W base args ds gs before hval0 hW hsz0 hL hS
  have hsz : (DataW.weightsEach Tryz.prog (Tryz.f4.params.toList ++ Rows.coreTextsSpec.plain.varTypes Tryz.prog) (ds ++ gs)).all (· ≤ reachBytes) = true := hsz0
  clear hsz0
  have hval : ∀ (j : Nat) t v, Tryz.f4.params[j]? = some t → args[j]? = some v → Value.okWide Tryz.prog W .any base t v := hval0
  have hW' := hW
  obtain ⟨p, q, hA0, hV, rfl, hfz, hnd⟩ := hW
  have hA : DataW.TrodAll enc Tryz.prog W 0 (fun _ => true) true Tryz.f4.params.toList args.toList ds p := hA0
  rw [Tryz.params4] at hA hval hsz
  obtain ⟨v0, vs0, d0, ds0, p0, q0, hargs, rfl, rfl, h0, r0⟩ := trodAll_cons hA
  obtain ⟨v1, vs1, d1, ds1, p1, q1, rfl, rfl, rfl, h1, r1⟩ := trodAll_cons r0
  obtain ⟨rfl, rfl, rfl⟩ := trodAll_nil r1
  obtain rfl : args = #[v0, v1] := by cases args; simp_all
  obtain ⟨rfl, rfl⟩ := trodVars_none hV
  have k0 := h0
  have k1 := h1
  have lt0 : ∀ x ∈ p0, x.block < W.heap.size := by obtain ⟨m, hm⟩ := k0; exact DataW.trod_lt m _ _ _ hm
  have lt1 : ∀ x ∈ p1, x.block < W.heap.size := by obtain ⟨m, hm⟩ := k1; exact DataW.trod_lt m _ _ _ hm
  obtain ⟨f0, e0⟩ := h0
  obtain ⟨f1, e1⟩ := h1
  have hw : ∀ (j : Nat) t d, [9, 41][j]? = some t → [d0, d1][j]? = some d → ∀ n ∈ d.weights Tryz.prog t, n ≤ reachBytes := fun j t d ht hd n hn => by
    have := List.all_eq_true.1 hsz n (DataW.weights_mem_each (j := j) (t := t) (d := d) (by match j, ht with | 0, h => exact h | 1, h => exact h | n + 2, h => simp at h) (by match j, hd with | 0, h => exact h | 1, h => exact h | n + 2, h => simp at h) n hn)
    simpa using this
  obtain ⟨s, rfl⟩ := okWide_string Tryz.underlying9 (hval 0 9 v0 rfl rfl)
  obtain ⟨s', hse, hd0, hs⟩ := DataW.trod_string Tryz.underlying9 e0
  obtain rfl : s = s' := by simpa [Value.cells] using hse
  have hlen : s.data.toList.length ≤ 140737488355328 := by
    have := hw 0 _ _ rfl rfl s.data.toList.length (by simp only [Prod.mk.injEq] at hd0; rw [hd0.1]; simp [DataW.weights])
    unfold reachBytes at this
    omega
  obtain ⟨ao1, n1, c1, rfl⟩ := okWide_slice Tryz.underlying41 (hval 1 41 v1 rfl rfl)
  obtain ⟨row, hrow, hll, _⟩ := vals_rd (v := .slice ao1 n1 c1) (by simpa [Value.cells] using e1)
  have hr9 : row.length ≤ 100000000000000 := by
    rcases hll with h | ⟨el, sp, hd, hel⟩
    · omega
    · have := weights_vals hd (hw 1 _ _ rfl rfl)
      unfold reachBytes at this
      omega
  obtain ⟨_, _, ha, _⟩ := id hrow
  obtain ⟨rfl, rfl, rfl⟩ := Value.slice.inj ha
  obtain ⟨hg, h10⟩ := glob_of hL (by kernel_rfl) (by simp [Rows.coreTextsRow]) hS
  have hp := pow_of hL (by kernel_rfl) (by simp [Rows.coreTextsRow])
  clear hA0 hval0
  have hwalk := ctexts_any s.data.toList row _ _ _ W ⟨hg, hp⟩ h10 hlen hrow hr9
  have hsv : sv s.data.toList = .string s := by simp
  rw [hsv] at hwalk
  refine hwalk.mono fun e W' ⟨he, hc⟩ => ?_
  have bel := hc.below (B := W.heap.size) (fun _ h => h.elim) (Nat.le_refl _)
  subst he
  exact ⟨_, rfl, _, _, _, [], _, [], hW', trodAll_mk1 (shut_bool Tryz.underlying4 _), (trodAll_cons_mk (Below.trod laidOut (by kernel_rfl) (of_decide_eq_true (by kernel_rfl)) k0 bel lt0) (trodAll_cons_mk (Below.trod laidOut (by kernel_rfl) (of_decide_eq_true (by kernel_rfl)) k1 bel lt1) trodAll_mk0)), rfl, bel.frame _, fun h => by cases h⟩
theorem coreTexts_row : Rows.CoreTextsSaid :=
  OpenClaim.holds_of_wide 4 Tryz.f4 rfl rfl rfl rfl rfl rfl rfl ⟨rfl, rfl, rfl, rfl, rfl⟩ rfl rfl rfl rfl rfl (by kernel_rfl) Tryz.func4 (by kernel_rfl)
    (of_decide_eq_true (by kernel_rfl)) (by unfold Func.isWrapper; first | (rw [if_pos (by decide +kernel)]; kernel_rfl) | (rw [if_neg (by decide +kernel)]; exact ⟨rfl, rfl⟩))
    (fun os started H enc _ => coreTexts_lifted os started H enc)
theorem coreTexts_proved : Rows.CoreTextsCardSaid :=
  Claim7.holds_tied_plain_at .later [] [.data, .data, .data, .data, .listed, .data, .pinned, .pinned] true Rows.coreTextsCard.stood.harness true
    coreTexts_row (fun _ h => by cases h) (by kernel_rfl) (fun _ h => by cases h) coreTexts_row_tie rfl ⟨rfl, rfl⟩ (by kernel_rfl) rfl
    (fun f fn hf hfn => by
      obtain rfl : f = 4 := Option.some.inj ((show Tryz.prog.funcNamed "cadastre/cadastretop.CoreTexts" = some 4 by kernel_rfl).symm.trans hf) |>.symm
      obtain rfl : fn = Tryz.f4 := (Option.some.inj (Tryz.func4.symm.trans hfn)).symm
      exact ⟨by kernel_rfl, fun j t ht => by
        rw [Tryz.params4] at ht
        have hm : t ∈ [9, 41] := by simpa using Array.mem_of_getElem? ht
        have hall : ([9, 41].all fun u => !Tryz.prog.wantsStandIn u) = true := by kernel_rfl
        exact (show Tryz.prog.wantsStandIn t = false by simpa using List.all_eq_true.1 hall t hm)⟩)
    (by kernel_rfl)
#print axioms coreTexts_proved
end Go.Proofs.YtnbckfkdmkbopaaGreatDoor
