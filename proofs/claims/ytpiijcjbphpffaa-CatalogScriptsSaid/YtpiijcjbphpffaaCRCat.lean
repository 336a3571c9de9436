/-
  The document's catalog in memory: two lists, in the order in which things came; Find, AddTable. No condition beyond each lemma's own.
-/
import Derived.Test.YtpiijcjbphpffaaCTabAt
import Derived.Test.YtpiijcjbphpffaaCAddT
import Derived.Test.YtpiijcjbphpffaaCRMay
set_option autoImplicit false
namespace Go.Proofs.Ytpiijcjbphpffaa
open Go Go.RowKit
attribute [local go_sem] field_tab0 field_tab1

theorem Own.readOwn {T s : Nat} {w : World} {lo : Nat} {v : Value} {n : Nat} {cells : List Value} (h : Own T s w lo v n cells) : RowAt w (fun k => v.ownBlock = some k) v n cells := by
  rcases h.row.2 with ⟨rfl, hn⟩ | ⟨g, cap, cur, rfl, hb, hg, r1, r2, r3, r4⟩
  · exact ⟨none, 0, by rw [hn], fun h => by omega⟩
  · refine ⟨some ⟨g, 0, none⟩, cap, rfl, fun _ => ⟨g, 0, rfl, lt_of_heap hg, rfl, fun j k hj => ?_⟩⟩
    have := h.row.cells (g := g) rfl j k hj
    rw [Addr.add_mid] at this
    exact this
/-- r: the catalog's block; vt, vi: its lists; columns lie in K, which no call writes -/
structure RAt (w : World) (lo r : Nat) (K : Nat → Prop) (vt vi : Value) (C : Cat) : Prop where
  obj : w.heap[r]? = some (.cells #[vt, vi] 58 (0, 0))
  r_lo : lo ≤ r
  T : ∃ us, Own 27 2 w lo vt C.T.length (tabCells C.T us) ∧ ColsEach w K C.T us
  I : Own 64 4 w lo vi C.I.length (ixCells C.I)
  ne_t : vt.ownBlock ≠ some r
  ne_i : vi.ownBlock ≠ some r
  ne : ∀ g, vt.ownBlock = some g → vi.ownBlock ≠ some g
  out : ∀ g, K g → g ≠ r ∧ vt.ownBlock ≠ some g ∧ vi.ownBlock ≠ some g
  k_lt : ∀ g, K g → g < w.heap.size
  ok : C.ok
/-- the blocks that a call may write -/
def RF (r : Nat) (vt vi : Value) (g : Nat) : Prop := g = r ∨ vt.ownBlock = some g ∨ vi.ownBlock = some g
section
variable {w w' : World} {lo r : Nat} {K G : Nat → Prop} {vt vi : Value} {C : Cat}
theorem RAt.chg (h : RAt w lo r K vt vi C) (c : Chg G w w') (h1 : ∀ g, RF r vt vi g → ¬ G g) (h2 : ∀ g, K g → ¬ G g) : RAt w' lo r K vt vi C :=
  ⟨c.heap h.obj (h1 r (.inl rfl)), h.r_lo, by obtain ⟨us, a, b⟩ := h.T; exact ⟨us, a.chg c (fun g hg => h1 g (.inr (.inl hg))), b.chg c h2⟩, h.I.chg c (fun g hg => h1 g (.inr (.inr hg))), h.ne_t, h.ne_i, h.ne, h.out, fun g hg => Nat.lt_of_lt_of_le (h.k_lt g hg) c.size, h.ok⟩
theorem RAt.quiet (h : RAt w lo r K vt vi C) (c : Chg (fun _ => False) w w') : RAt w' lo r K vt vi C := h.chg c (fun _ _ h => h) (fun _ _ h => h)
theorem RAt.tabs (h : RAt w lo r K vt vi C) : TabsAt w (fun _ => True) vt C.T := by
  obtain ⟨us, a, b⟩ := h.T
  exact ⟨us, b.mono (fun _ _ _ => trivial), a.read.mono (fun _ _ _ => trivial)⟩
theorem RAt.ixs (h : RAt w lo r K vt vi C) : IxsAt w (fun k => vi.ownBlock = some k) vi C.I := h.I.readOwn
theorem RAt.cells (h : RAt w lo r K vt vi C) : w.cell? ⟨r, 0, none⟩ = some vt ∧ w.cell? ⟨r, 1, none⟩ = some vi ∧ r < w.heap.size := ⟨cell_of_row w r 0 _ _ _ h.obj, cell_of_row w r 1 _ _ _ h.obj, lt_of_heap h.obj⟩
theorem RAt.form (h : RAt w lo r K vt vi C) : (∃ ao c, vt = .slice ao C.T.length c) ∧ ∃ ao c, vi = .slice ao C.I.length c := by
  obtain ⟨us, a, b⟩ := h.T
  obtain ⟨ao, c, rfl, _⟩ := a.form
  obtain ⟨bo, d, rfl, _⟩ := h.I.form
  exact ⟨⟨ao, c, rfl⟩, bo, d, rfl⟩
theorem RAt.rf (h : RAt w lo r K vt vi C) : ∀ g, RF r vt vi g → lo ≤ g ∧ g < w.heap.size := by
  intro g hg
  obtain ⟨us, a, b⟩ := h.T
  rcases hg with rfl | hg | hg
  · exact ⟨h.r_lo, lt_of_heap h.obj⟩
  · exact ⟨a.lo g hg, a.lt hg⟩
  · exact ⟨h.I.lo g hg, h.I.lt hg⟩
end

/-! Find -/
def findI (T : List Tab) (k : ByteArray) : Int := match T.findIdx? (fun t => t.name == k) with
  | some i => i
  | none => -1
def findFrom (T : List Tab) (k : ByteArray) (i : Nat) : Prop := ∀ (j : Nat) (t : Tab), j < i → T[j]? = some t → (t.name == k) = false
theorem findI_hit {T : List Tab} {k : ByteArray} {i : Nat} {t : Tab} (h : findFrom T k i) (hc : T[i]? = some t) (hx : (t.name == k) = true) : findI T k = i := by
  unfold findI
  obtain ⟨hk, hc'⟩ := List.getElem?_eq_some_iff.1 hc
  have : T.findIdx? (fun c => c.name == k) = some i := by
    rw [List.findIdx?_eq_some_iff_getElem]
    refine ⟨hk, by rw [hc']; exact hx, fun j hj => ?_⟩
    have := h j T[j] hj (by simp)
    simp [this]
  rw [this]
theorem findI_end {T : List Tab} {k : ByteArray} (h : findFrom T k T.length) : findI T k = -1 := by
  unfold findI
  have : T.findIdx? (fun c => c.name == k) = none := by
    rw [List.findIdx?_eq_none_iff]
    intro c hc
    obtain ⟨j, hj, rfl⟩ := List.getElem_of_mem hc
    exact h j _ hj (by simp)
  rw [this]
theorem findI_none {T : List Tab} {k : ByteArray} (h : tfind T k = none) : findI T k = -1 :=
  findI_end fun _ t _ ht => beq_ne (tfind_none h t (List.mem_of_getElem? ht))
theorem findI_some {T : List Tab} {k : ByteArray} {t : Tab} (h : tfind T k = some t) : ∃ i : Nat, findI T k = i ∧ T[i]? = some t := by
  unfold tfind at h
  rw [List.find?_eq_some_iff_getElem] at h
  obtain ⟨h1, i, hi, h2, h3⟩ := h
  refine ⟨i, findI_hit (t := t) (fun j s hj hs => ?_) (by rw [← h2]; simp) h1, by rw [← h2]; simp⟩
  have := h3 j hj
  obtain ⟨_, rfl⟩ := List.getElem?_eq_some_iff.1 hs
  simpa using this
set_option maxRecDepth 100000 in
theorem rfind_any (lo r : Nat) (K : Nat → Prop) (vt vi : Value) (C : Cat) (k : ByteArray) (w : World) (h : RAt w lo r K vt vi C) :
    Calls Try.prog 38 #[.pointer (some ⟨r, 0, none⟩), .string k] w fun e w' => e = .returned (.int .i64 (findI C.T k)) ∧ w = w' := by
  obtain ⟨⟨ao, cap, rfl⟩, bo, cap2, rfl⟩ := h.form
  obtain ⟨c0, c1, c2⟩ := h.cells
  have HT := Lib.hid h.tabs
  have hm := h.ok.t16
  clear h c1
  go_enter Try.func38, Try.ntmps38
  go_wp2
  go_loop [5] (fun s => ∃ i : Nat, i ≤ C.T.length ∧ s = .int .i64 i ∧ Hid (findFrom C.T k i)) (fun s => C.T.length - (intOf s).toNat)
  case atStart => exact ⟨0, Nat.zero_le _, rfl, Lib.hid (fun _ _ h => by omega)⟩
  case round =>
    obtain ⟨i, hi, rfl, HF⟩ := hrel
    by_cases hlt : i < C.T.length
    · obtain ⟨t, ht⟩ : ∃ t, C.T[i]? = some t := ⟨_, List.getElem?_eq_getElem hlt⟩
      obtain ⟨b, o, a1, k1, rfl, hbl, _, q0, q1, _⟩ := TabsAt.tab HT.out ht
      have HG := Lib.hid ht
      clear ht q1
      cases h5 : t.name == k with
      | true =>
        have H5 := Lib.hid h5
        rw [beq_list] at h5
        go_wp2
        go_ret
        exact ⟨by rw [findI_hit HF.out HG.out H5.out]; rfl, rfl⟩
      | false =>
        have H5 := Lib.hid h5
        rw [beq_list] at h5
        go_wp2
        go_round
        case rel => exact ⟨i + 1, by omega, by go_num, Lib.hid (fun j c hj hc => by
          by_cases hji : j = i
          · subst hji; rw [HG.out] at hc; obtain rfl := Option.some.inj hc; exact H5.out
          · exact HF.out j c (by omega) hc)⟩
        case measure => simp [intOf]; omega
    · have HE := Lib.hid (show i = C.T.length by omega)
      go_wp2
      go_ret
      have hF := HF.out
      rw [HE.out] at hF
      exact ⟨by rw [findI_end hF]; rfl, rfl⟩

/-! AddTable -/
theorem raddT_nil (ao : Option Addr) (l c : Nat) (w : World) (n : ByteArray) : Calls Try.prog 22 #[.pointer none, .agg #[.string n, .slice ao l c]] w fun e w' => e = .returned (.int .i64 2) ∧ Chg (fun _ => False) w w' := by
  go_enter Try.func22, Try.ntmps22
  go_wp2
  go_ret
  exact ⟨rfl, (Chg.refl _ _).alloc _⟩
def AddTPost (w : World) (lo r : Nat) (K : Nat → Prop) (vt vi : Value) (C : Cat) (t : Tab) (w' : World) : Prop :=
  ∃ vt' K', RAt w' lo r K' vt' vi (C.addT t) ∧ Chg (RF r vt vi) w w' ∧ (∀ g, vt'.ownBlock = some g → vt.ownBlock = some g ∨ w.heap.size ≤ g) ∧ (∀ g, K' g → K g ∨ w.heap.size ≤ g)
theorem AddTPost.same {w w' : World} {lo r : Nat} {K : Nat → Prop} {vt vi : Value} {C : Cat} {t : Tab} (h : RAt w lo r K vt vi C) (h0 : C.addTR t ≠ 0) (x : Chg (fun _ => False) w w') : AddTPost w lo r K vt vi C t w' := by
  refine ⟨vt, K, ?_, x.mono (fun _ h => h.elim), fun g hg => .inl hg, fun g hg => .inl hg⟩
  unfold Cat.addT
  rw [if_neg h0]
  exact h.quiet x
set_option maxRecDepth 100000 in
set_option maxHeartbeats 1000000 in
theorem raddT_any (lo r : Nat) (K G : Nat → Prop) (vt vi : Value) (C : Cat) (t : Tab) (v : Value) (w : World) (h : RAt w lo r K vt vi C) (hv : ColsAt w G v t.cols) (hm : t.cols.length ≤ 9223372036854775807) (hn : big t.name) (hb : ∀ c ∈ t.cols, big c.name) (hlo : lo ≤ w.heap.size) :
    Calls Try.prog 22 #[.pointer (some ⟨r, 0, none⟩), .agg #[.string t.name, v]] w fun e w' => e = .returned (.int .i64 (C.addTR t)) ∧ AddTPost w lo r K vt vi C t w' := by
  obtain ⟨⟨ao, cap, rfl⟩, bo, cap2, rfl⟩ := h.form
  obtain ⟨vo, vcap, rfl, hp⟩ := hv
  have HV : Hid (ColsAt w G (.slice vo t.cols.length vcap) t.cols) := Lib.hid ⟨vo, vcap, rfl, hp⟩
  have HH := Lib.hid h; have HB := Lib.hid hb
  have hrl := h.cells.2.2
  have ht16 := h.ok.t16
  clear h hp hb
  obtain ⟨W1, hW1⟩ : ∃ W1, W1 = w.alloc (.cells #[.string t.name, .slice vo t.cols.length vcap] 27) := ⟨_, rfl⟩
  have x1 : Chg (fun _ => False) w W1 := by subst hW1; exact (Chg.refl _ _).alloc _
  have b1 : W1.heap[w.heap.size]? = some (.cells #[.string t.name, .slice vo t.cols.length vcap] 27 (0, 0)) := by subst hW1; exact hal_new
  have c0 := cell_of_row W1 w.heap.size 0 _ _ _ b1
  have c1 := cell_of_row W1 w.heap.size 1 _ _ _ b1
  have z1 : W1.heap.size = w.heap.size + 1 := by subst hW1; simp
  have X1 := Lib.hid x1; have B1 := Lib.hid b1; have HW := Lib.hid hW1; have Z1 := Lib.hid z1
  have HV1 := Lib.hid (RowAt.quiet HV.out x1)
  clear x1 b1 hW1 z1
  cases hmay : mayB t.name t.cols with
  | false =>
    have HR := Lib.hid (show C.addTR t = 1 by unfold Cat.addTR; rw [hmay]; rfl)
    have HM := Lib.hid hmay
    clear hmay
    go_enter Try.func22, Try.ntmps22
    go_wp2_with fail
    rw [← HW.out]
    refine (rmay_any t.name _ G t.cols _ HV1.out hm hn HB.out).mono ?_
    rw [HM.out]
    rintro e w2 ⟨rfl, x2⟩
    have X2 := Lib.hid (X1.out.trans x2 (fun _ h => h.elim))
    clear x2
    go_wp2
    go_ret
    exact ⟨by rw [HR.out]; rfl, .same HH.out (by rw [HR.out]; omega) X2.out⟩
  | true =>
    have HM := Lib.hid hmay
    clear hmay
    go_enter Try.func22, Try.ntmps22
    go_wp2_with fail
    rw [← HW.out]
    refine (rmay_any t.name _ G t.cols _ HV1.out hm hn HB.out).mono ?_
    rw [HM.out]
    rintro e w2 ⟨rfl, x2⟩
    have hh2 := HH.out.quiet (X1.out.trans x2 (fun _ h => h.elim))
    have H2 := Lib.hid hh2
    have X2 := Lib.hid (X1.out.trans x2 (fun _ h => h.elim))
    have b2 := x2.heap B1.out (fun h => h)
    have Z2 := Lib.hid (show w.heap.size < w2.heap.size from lt_of_heap b2)
    have c0 := cell_of_row w2 w.heap.size 0 _ _ _ b2
    have c1 := cell_of_row w2 w.heap.size 1 _ _ _ b2
    obtain ⟨d0, _, d2⟩ := hh2.cells
    have B2 := Lib.hid b2
    clear x2 hh2 b2
    have hfd := rfind_any lo r K _ _ C t.name w2 H2.out
    cases hf : tfind C.T t.name with
    | some s =>
      have HR := Lib.hid (show C.addTR t = 32 by unfold Cat.addTR; rw [HM.out, hf]; rfl)
      obtain ⟨i, hi, _⟩ := findI_some hf
      rw [hi] at hfd
      have HI := Lib.hid hi
      clear hf hi
      go_wp2_with fail
      refine hfd.mono ?_
      rintro e w' ⟨rfl, rfl⟩
      clear hfd
      go_wp2
      go_ret
      exact ⟨by rw [HR.out]; rfl, .same HH.out (by rw [HR.out]; omega) X2.out⟩
    | none =>
      rw [findI_none hf] at hfd
      have HF := Lib.hid hf
      by_cases h16 : 16 ≤ C.T.length
      · have HR := Lib.hid (show C.addTR t = 20 by unfold Cat.addTR; rw [HM.out, hf, if_pos h16]; rfl)
        clear hf
        go_wp2_with fail
        refine hfd.mono ?_
        rintro e w' ⟨rfl, rfl⟩
        clear hfd
        go_wp2
        go_ret
        exact ⟨by rw [HR.out]; rfl, .same HH.out (by rw [HR.out]; omega) X2.out⟩
      · have HR := Lib.hid (show C.addTR t = 0 by unfold Cat.addTR; rw [HM.out, hf, if_neg h16]; rfl)
        have hcl := (mayB_len HM.out).2.1
        have hlt : C.T.length < 16 := by omega
        clear hf h16
        go_wp2_with fail
        refine hfd.mono ?_
        rintro e w' ⟨rfl, rfl⟩
        clear hfd
        have HV2 := Lib.hid (RowAt.quiet HV.out X2.out)
        go_wp2_with (at_builtin; refine own_app col_ok rfl _ _ rfl w2.heap.size _ 0 [] rfl (Own.nil _ _ _ _) G _ t.cols.length (colCells t.cols) rfl HV2.out (colCells_len _) (colCells_one _) ?_ ?_ ?_ ?_)
        · unfold maxLen; omega
        · omega
        · omega
        · intro vc w3 r3 x3 hat
          have X3 : Hid (Chg (fun _ => False) w2 w3) := Lib.hid (x3.mono (fun k hk => by simp [Value.ownBlock] at hk))
          have hat' : ∀ g, vc.ownBlock = some g → g = w2.heap.size := fun g hg => by
            rcases hat g hg with h | h
            · simp [Value.ownBlock] at h
            · exact h
          have Z3 : Hid (w2.heap.size ≤ w3.heap.size) := Lib.hid x3.size
          have R3 := Lib.hid r3.readOwn; have HAT := Lib.hid hat'
          obtain ⟨co, ccap, rfl, _⟩ := r3.form
          have h3 := H2.out.quiet X3.out
          have b3 := X3.out.heap B2.out (fun h => h)
          have H3 := Lib.hid h3; have B3 := Lib.hid b3
          clear r3 x3 hat hat' c0 c1 d0 h3 b3
          go_wp2
          have hS : ∀ W, Chg (fun _ => False) w3 W → W.cell? ⟨r, 0, none⟩ = some (.slice ao C.T.length cap) ∧ W.cell? ⟨w.heap.size, 0, none⟩ = some (.string t.name) := fun W hW => ⟨(H3.out.quiet hW).cells.1, cell_of_row W _ 0 _ _ _ (hW.heap B3.out (fun h => h))⟩
          have HS := Lib.hid hS
          clear hS
          refine wp_region_lex (fun W => W.cell? ⟨r, 0, none⟩ = some (.slice ao C.T.length cap) ∧ W.cell? ⟨w.heap.size, 0, none⟩ = some (.string t.name)) 13 [9, 10, 13] [0, 1, 2, 3, 4, 5, 6, 7, 8, 9, 10, 11, 12, 13] (by kernel_rfl) (by kernel_rfl) (HS.out _ (Chg.refl _ _).drew) ?_
          iterate 9
            refine' lex_free (v := _) rfl rfl rfl ?_ (fun _ _ _ h => h) ?_
            rotate_left
            · rintro W ⟨hW1, hW2⟩
              go_simp
              with_reducible rfl
            try simp only [Act.put, List.setIfInBounds_toArray, List.set_cons_zero, List.set_cons_succ]
          refine lex_op rfl rfl rfl (fun K hK => ?_)
          go_simp
          refine hK _ _ (fun _ => HS.out _ ((Chg.refl _ _).drew.alloc _)) ?_
          clear hK K
          try simp only [Act.put, List.setIfInBounds_toArray, List.set_cons_zero, List.set_cons_succ]
          refine lex_op rfl rfl rfl (fun K hK => ?_)
          obtain ⟨us, oT, eT⟩ := H3.out.T
          have OT := Lib.hid (oT.quiet ((Chg.refl _ _).drew.alloc (.cells #[.string t.name, .slice co t.cols.length ccap] 27)))
          have ET := Lib.hid eT; have OLT := Lib.hid (fun g hg => oT.lt (g := g) hg)
          clear oT eT
          refine own_wp tab_ok _ _ rfl lo _ C.T.length (tabCells C.T us) rfl OT.out (fun _ => True) (.slice (some ⟨w3.heap.size, 0, none⟩) 1 1) 1 [.string t.name, .slice co t.cols.length ccap] rfl ⟨_, 1, rfl, fun _ => ⟨w3.heap.size, 0, rfl, by simp, trivial, range_block hal_new⟩⟩ rfl (fun y hy => by simp at hy; rcases hy with rfl | rfl <;> rfl) (by unfold maxLen; omega) (by omega) (by have := X2.out.size; have := X3.out.size; simp; omega) ?_
          intro v' w9 r9 x9 hat9
          obtain ⟨ao9, cap9, rfl, _⟩ := r9.form
          have y9 := ((Chg.refl (fun k => (Value.slice ao C.T.length cap).ownBlock = some k) w3).drew.alloc (.cells #[.string t.name, .slice co t.cols.length ccap] 27)).trans x9 (fun k h => .inl h)
          have Z9 := Lib.hid x9.size; have Y9 := Lib.hid y9; have R9 := Lib.hid r9; have HAT9 := Lib.hid hat9
          have b9 := y9.heap H3.out.obj H3.out.ne_t
          have b9' := y9.heap B3.out (fun h => by have := OLT.out _ h; have := (H2.out.rf w.heap.size (.inr (.inl h))); have := HH.out.rf w.heap.size (.inr (.inl h)); omega)
          have B9 := Lib.hid b9
          have m0 := cell_of_row w9 r 0 _ _ _ b9
          have f0 := frozen_of_row w9 r 0 _ _ b9
          refine hK _ _ (fun _ => ⟨m0, cell_of_row w9 _ 0 _ _ _ b9'⟩) ?_
          clear hK K
          try simp only [Act.put, List.setIfInBounds_toArray, List.set_cons_zero, List.set_cons_succ]
          clear r9 x9 hat9 y9 b9 b9'
          iterate 2
            refine' lex_free (v := _) rfl rfl rfl ?_ (fun _ _ _ h => h) ?_
            rotate_left
            · rintro W ⟨hW1, hW2⟩
              go_simp
              with_reducible rfl
            try simp only [Act.put, List.setIfInBounds_toArray, List.set_cons_zero, List.set_cons_succ]
          refine lex_op rfl rfl rfl (fun K hK => ?_)
          go_simp
          refine hK _ _ (fun h => absurd rfl h) ?_
          clear hK K
          try simp only [Act.put, List.setIfInBounds_toArray, List.set_cons_zero, List.set_cons_succ]
          refine lex_nil ?_
          go_wp2
          go_ret
          have yS : Chg (fun g => g = r ∨ (Value.slice ao C.T.length cap).ownBlock = some g) w3 (w9.setCell ⟨r, 0, none⟩ (.slice ao9 (C.T.length + 1) cap9)) := ((Y9.out.mono (G := fun g => g = r ∨ (Value.slice ao C.T.length cap).ownBlock = some g) (fun k hk => .inl (.inr hk))).setCell (p := ⟨r, 0, none⟩) (.inl (.inl rfl)) _)
          have zS : Chg (fun g => g = r) w9 (w9.setCell ⟨r, 0, none⟩ (.slice ao9 (C.T.length + 1) cap9)) := (Chg.refl (fun g => g = r) w9).setCell (p := ⟨r, 0, none⟩) (.inl rfl) _
          have s1 := X2.out.size; have s2 := X3.out.size; have s3 := Y9.out.size
          have hrf := HH.out.rf
          have hlt3 : ∀ g, (Value.slice ao C.T.length cap).ownBlock = some g → g < w.heap.size := fun g hg => (hrf g (.inr (.inl hg))).2
          have hlti : ∀ g, (Value.slice bo C.I.length cap2).ownBlock = some g → g < w.heap.size := fun g hg => (hrf g (.inr (.inr hg))).2
          have hat9 : ∀ g, (Value.slice ao9 (C.T.length + 1) cap9).ownBlock = some g → (Value.slice ao C.T.length cap).ownBlock = some g ∨ g = w3.heap.size + 1 := fun g hg => by
            rcases HAT9.out g hg with h | h
            · exact .inl h
            · simp at h; exact .inr h
          have hsz : w3.heap.size + 1 ≤ w9.heap.size := by
            have := ((Chg.refl (fun _ => False) w3).drew.alloc (.cells #[.string t.name, .slice co t.cols.length ccap] 27)).size
            have := Z9.out
            simp at this
            omega
          refine ⟨by rw [HR.out]; rfl, .slice ao9 (C.T.length + 1) cap9, fun g => K g ∨ (Value.slice co t.cols.length ccap).ownBlock = some g, ?_, ((X2.out.trans X3.out (fun _ h => h.elim)).mono (fun _ h => h.elim)).trans (yS.mono (G := RF r (.slice ao C.T.length cap) (.slice bo C.I.length cap2)) (fun k hk => by
            rcases hk with h | h
            · exact .inl (.inl h)
            · exact .inl (.inr (.inl h)))) (fun _ h => .inl h), ?_, ?_⟩
          · have hC : C.addT t = ⟨C.T ++ [t], C.I⟩ := by unfold Cat.addT; rw [HR.out, if_pos rfl]
            rw [hC]
            refine ⟨by rw [hset_eq B9.out]; rfl, HH.out.r_lo, ⟨us ++ [.slice co t.cols.length ccap], ?_, ?_⟩, H3.out.I.chg yS ?_, ?_, HH.out.ne_i, ?_, ?_, ?_, HH.out.ok.addT HM.out HF.out hlt⟩
            · show Own 27 2 _ lo _ (C.T ++ [t]).length (tabCells (C.T ++ [t]) _)
              rw [tabCells_app ET.out.1, List.length_append]
              refine R9.out.chg zS (fun g hg e => ?_)
              rcases hat9 g hg with h | h
              · exact HH.out.ne_t (e ▸ h)
              · omega
            · refine ColsEach.app ((ET.out.chg yS (fun g hk h => ?_)).mono (fun g hk _ => .inl hk)) ((R3.out.chg yS (fun g hk h => ?_)).mono (fun g hk _ => .inr hk))
              · have := HH.out.out g hk
                rcases h with h | h
                · exact this.1 h
                · exact this.2.1 h
              · have := HAT.out g hk
                rcases h with h | h
                · omega
                · have := hlt3 g h; omega
            · intro g hg h
              rcases h with h | h
              · exact HH.out.ne_i (h ▸ hg)
              · exact HH.out.ne g h hg
            · intro h
              rcases hat9 r h with h | h
              · exact HH.out.ne_t h
              · omega
            · intro g hg h
              rcases hat9 g hg with h1 | h1
              · exact HH.out.ne g h1 h
              · have := hlti g h; omega
            · intro g hg
              rcases hg with hg | hg
              · have h0 := HH.out.out g hg
                refine ⟨h0.1, fun h => ?_, h0.2.2⟩
                rcases hat9 g h with h1 | h1
                · exact h0.2.1 h1
                · have := HH.out.k_lt g hg; omega
              · have h0 := HAT.out g hg
                refine ⟨by omega, fun h => ?_, fun h => ?_⟩
                · rcases hat9 g h with h1 | h1
                  · have := hlt3 g h1; omega
                  · have := Z3.out; omega
                · have := hlti g h; omega
            · intro g hg
              show g < (w9.setCell _ _).heap.size
              have : (w9.setCell ⟨r, 0, none⟩ (.slice ao9 (C.T.length + 1) cap9)).heap.size = w9.heap.size := by simp [World.setCell]
              rcases hg with hg | hg
              · have := HH.out.k_lt g hg; omega
              · have := HAT.out g hg; have := Z3.out; omega
          · intro g hg
            rcases HAT9.out g hg with h | h
            · exact .inl h
            · have := X2.out.size; have := X3.out.size
              simp at h
              exact .inr (by omega)
          · intro g hg
            rcases hg with h | h
            · exact .inl h
            · have := HAT.out g h; exact .inr (by omega)
end Go.Proofs.Ytpiijcjbphpffaa
