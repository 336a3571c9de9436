/-
  What the catalog's Clone does. No condition beyond each lemma's own.
-/
import Derived.Test.YtpiijcjbphpffaaCAddI
import Derived.Test.YtpiijcjbphpffaaCBackL
import Derived.Shelf.SlMaps.Clone
set_option autoImplicit false
namespace Go.Proofs.Ytpiijcjbphpffaa
open Go Go.RowKit
attribute [local go_sem] field_tab0 field_tab1

set_option maxRecDepth 100000 in
theorem imclone_any (b : Nat) (es : Array MapEntry) (clock : Nat) (w : World) (hb : w.heap[b]? = some (.map es clock)) :
    Calls Try.prog 49 #[.map (some b)] w fun e w' => e = .returned (.map (some w.heap.size)) ∧ w.alloc (.map es clock) = w' := by
  have hq := fun w => run_eql_map_nil_sl (P := Try.prog) w 66 _ _ (some b) Try.underlying66
  have HB := Lib.hid hb
  clear hb
  go_enter Try.func49, Try.ntmps49
  go_wp2
  rw [run_callFunc_extern Try.func57 (by kernel_rfl) (by kernel_rfl) (by kernel_rfl) (e := Extern.MapsClone.clone) (by kernel_rfl), run_maps_clone_sl w 66 HB.out]
  simp only [Result.andThen]
  rw [Oper.upon_value]
  go_wp2
  rw [run_typeAssert_map_sl _ 66 _ _ _ _ Try.underlying66]
  simp only [Result.andThen]
  rw [Oper.upon_value]
  go_wp2
  go_ret
  exact ⟨rfl, rfl⟩
theorem mfind_mem : ∀ {es : List MapEntry}, (es.map (·.key)).Nodup → KeysTy .string es → ∀ {e : MapEntry}, e ∈ es → mfind es e.key = some e.val
  | [], _, _, e, he => by simp at he
  | x :: es, hn, hk, e, he => by
    rw [List.map_cons, List.nodup_cons] at hn
    unfold mfind
    rw [List.find?_cons]
    rcases List.mem_cons.1 he with rfl | he
    · rw [kmatch_self (hk e (by simp))]
      rfl
    · have hx : kmatch e.key x.key = false := by
        cases hh : kmatch e.key x.key with
        | false => rfl
        | true =>
          have := kmatch_eq hh
          exact absurd (List.mem_map.2 ⟨e, he, by first | exact this | exact this.symm⟩) hn.1
      rw [hx]
      exact mfind_mem hn.2 (fun y hy => hk y (by simp [hy])) he
theorem strs_nodup {T : List Tab} (h : (T.map (·.name)).Nodup) : (T.map fun t => Value.string t.name).Nodup := by
  have e : (T.map fun t => Value.string t.name) = (T.map (·.name)).map Value.string := by rw [List.map_map]; rfl
  rw [e]
  exact List.Pairwise.map _ (fun a b hab he => hab (by injection he)) h
theorem perm_of_names {T L : List Tab} (hn : (T.map (·.name)).Nodup) (hL : ∀ t ∈ L, tfind T t.name = some t) (hp : (L.map fun t => Value.string t.name).Perm (T.map fun t => Value.string t.name)) : L.Perm T := by
  have h2 := hp.map (fun v => tfind T (strOf v))
  rw [List.map_map, List.map_map] at h2
  have e1 : L.map ((fun v => tfind T (strOf v)) ∘ fun t => Value.string t.name) = L.map some := List.map_congr_left fun t ht => hL t ht
  have e2 : T.map ((fun v => tfind T (strOf v)) ∘ fun t => Value.string t.name) = T.map some := List.map_congr_left fun t ht => tfind_of_mem hn ht
  rw [e1, e2] at h2
  have h3 := h2.filterMap id
  simpa [List.filterMap_map] using h3
theorem TabEnt.perm_ {w : World} {F : Nat → Prop} {es : Array MapEntry} {c : Nat} {T L : List Tab} (h : TabEnt w F es c L) (hp : L.Perm T) (hn : (T.map (·.name)).Nodup) : TabEnt w F es c T := by
  refine ⟨h.keys, h.stamped, h.perm.trans (hp.map _), fun k => ?_⟩
  rw [← tfind_perm hp ((hp.map _).nodup_iff.2 hn) k]
  exact h.look k
theorem TabEnt.entry {w : World} {F : Nat → Prop} {es : Array MapEntry} {c : Nat} {T : List Tab} (h : TabEnt w F es c T) (hn : (T.map (·.name)).Nodup) {e : MapEntry} (he : e ∈ es.toList) :
    ∃ t ao cap, tfind T t.name = some t ∧ e.key = .string t.name ∧ e.val = .agg #[.string t.name, .slice ao t.cols.length cap] ∧ ColsAt w F (.slice ao t.cols.length cap) t.cols := by
  have hk : e.key ∈ T.map (fun t => Value.string t.name) := h.perm.mem_iff.1 (List.mem_map.2 ⟨e, he, rfl⟩)
  obtain ⟨t, ht, hkey⟩ := List.mem_map.1 hk
  have hf := tfind_of_mem hn ht
  obtain ⟨v, h1, h2⟩ := (h.look t.name).2 t hf
  have hm := mfind_mem (h.perm.nodup_iff.2 (strs_nodup hn)) h.keys he
  rw [← hkey, h1] at hm
  obtain ⟨ao, cap, rfl, h3⟩ := h2
  exact ⟨t, ao, cap, hf, hkey.symm, (Option.some.inj hm).symm, ao, cap, rfl, h3⟩
theorem cclone_nil (w : World) : Calls Try.prog 24 #[.pointer none] w fun e w' => e = .returned (.pointer none) ∧ w = w' := by
  go_enter Try.func24, Try.ntmps24
  go_wp2
  go_ret
  exact ⟨rfl, rfl⟩
set_option maxRecDepth 100000 in
set_option maxHeartbeats 2000000 in
theorem cclone_any (r : Nat) (F : Nat → Prop) (C : Cat) (w : World) (h : CatAt w r F C) :
    Calls Try.prog 24 #[.pointer (some ⟨r, 0, none⟩)] w fun e w' => ∃ r', e = .returned (.pointer (some ⟨r', 0, none⟩)) ∧ CatAt w' r' (fun g => w.heap.size ≤ g) C ∧ Chg (fun _ => False) w w' := by
  obtain ⟨mt, mi, es, es', c, c', h⟩ := h
  have HH := Lib.hid h
  have hmm := @run_makeMap Try.prog
  obtain ⟨W1, hW1⟩ : ∃ W1, W1 = w.alloc (.map #[] 0) := ⟨_, rfl⟩
  have x1 : Chg (fun _ => False) w W1 := by subst hW1; exact (Chg.refl _ _).alloc _
  have b1 : W1.heap[w.heap.size]? = some (.map #[] 0) := by subst hW1; exact hal_new
  have h1 := h.quiet x1
  obtain ⟨c0, c1, c2⟩ := h.cells
  have H1 := Lib.hid h1; have X1 := Lib.hid x1; have B1 := Lib.hid b1; have HW1 := Lib.hid hW1
  clear h h1 x1 b1 hW1
  go_enter Try.func24, Try.ntmps24
  go_wp2_with fail
  rw [← HW1.out]
  refine (imclone_any mi es' c' W1 H1.out.mapI).mono ?_
  rintro e w2 ⟨rfl, hw2⟩
  have x2 : Chg (fun _ => False) W1 w2 := hw2 ▸ (Chg.refl _ _).alloc _
  have b2 : w2.heap[W1.heap.size]? = some (.map es' c') := hw2 ▸ hal_new
  have z1 : W1.heap.size = w.heap.size + 1 := by rw [HW1.out]; simp
  have z2 : w2.heap.size = w.heap.size + 2 := by rw [← hw2]; simp; exact z1
  have h2 := H1.out.quiet x2
  obtain ⟨d0, d1, d2⟩ := h2.cells
  have hmt := h2.mapT
  have H2 := Lib.hid h2; have X2 := Lib.hid (X1.out.trans x2 (fun _ h => h.elim)); have B2 := Lib.hid b2; have BB1 := Lib.hid (x2.heap B1.out (fun h => h)); have Z1 := Lib.hid z1; have Z2 := Lib.hid z2
  clear h2 x2 b2 c0 c1 c2 hw2 z1 z2 d1 hmm
  obtain ⟨W3, hW3⟩ : ∃ W3, W3 = w2.alloc (.cells #[.map (some w.heap.size), .map (some W1.heap.size)] 68) := ⟨_, rfl⟩
  have x3 : Chg (fun _ => False) w2 W3 := by subst hW3; exact (Chg.refl _ _).alloc _
  have b3 : W3.heap[w2.heap.size]? = some (.cells #[.map (some w.heap.size), .map (some W1.heap.size)] 68 (0, 0)) := by subst hW3; exact hal_new
  have z3 : W3.heap.size = w.heap.size + 3 := by subst hW3; simp; exact Z2.out
  have X3 := Lib.hid (X2.out.trans x3 (fun _ h => h.elim)); have B3 := Lib.hid b3; have Z3 := Lib.hid z3; have HW3 := Lib.hid hW3
  have BM1 := Lib.hid (x3.heap BB1.out (fun h => h)); have BM2 := Lib.hid (x3.heap B2.out (fun h => h))
  have HMT : Hid ((w2.alloc (.cells #[.map (some w.heap.size), .map (some W1.heap.size)] 68)).heap[mt]? = some (.map es c)) := Lib.hid (by rw [← hW3]; exact (H2.out.quiet x3).mapT)
  clear x3 b3 z3 hW3 hmt
  go_wp2_with (at_range; refine wpList_range_rng _ rfl _ 65 rfl 9 27 Try.underlying65 mt es c rfl HMT.out ?_; intro w4 hrg4 hx4 hs4)
  go_frame
  rw [← HW3.out] at hrg4 hx4 hs4
  have HR4 := Lib.hid hrg4; have HX4 := Lib.hid (X3.out.trans hx4 (fun _ h => h.elim))
  have D4 := Lib.hid (hx4.heap B3.out (fun h => h)); have M4 := Lib.hid (hx4.heap BM1.out (fun h => h)); have I4 := Lib.hid (hx4.heap BM2.out (fun h => h))
  have Z4 := Lib.hid (show w4.heap.size = w.heap.size + 4 by rw [hs4, Z3.out])
  have HSZ3 := Lib.hid (show (w2.alloc (.cells #[.map (some w.heap.size), .map (some W1.heap.size)] 68)).heap.size = w.heap.size + 3 by rw [← HW3.out, Z3.out])
  have HR5 : Hid (Rng w4 (w.heap.size + 3) mt es c es.toList) := Lib.hid (by rw [← Z3.out]; exact hrg4)
  have HM2 := Lib.hid (show W1.heap.size = w.heap.size + 1 from Z1.out); have HD := Lib.hid (show w2.heap.size = w.heap.size + 2 from Z2.out)
  rw [HSZ3.out]
  rw [HM2.out] at D4 I4 ⊢
  rw [HD.out] at D4 ⊢
  have HNX : Hid (∀ (left : List MapEntry) (w5 : World), Rng w5 (w.heap.size + 3) mt es c left → True) := Lib.hid (fun _ _ _ => trivial)
  clear hrg4 hx4 hs4 HR4
  go_loopw [4] (fun _ wr => ∃ (done : List Tab) (left : List MapEntry) (es2 : Array MapEntry) (c2 : Nat), Hid (Rng wr (w.heap.size + 3) mt es c left) ∧ Hid ((done.map (fun t => Value.string t.name) ++ left.map (·.key)).Perm (C.T.map fun t => Value.string t.name)) ∧ Hid (∀ t ∈ done, tfind C.T t.name = some t) ∧ Hid (wr.heap[w.heap.size]? = some (.map es2 c2)) ∧ Hid (TabEnt wr (fun g => w.heap.size ≤ g) es2 c2 done) ∧ Hid (wr.heap[w.heap.size + 2]? = some (.cells #[.map (some w.heap.size), .map (some (w.heap.size + 1))] 68 (0, 0))) ∧ Hid (wr.heap[w.heap.size + 1]? = some (.map es' c')) ∧ Hid (Chg (fun _ => False) w wr) ∧ Hid (w.heap.size + 4 ≤ wr.heap.size)) (fun _ wr => mLeft wr (w.heap.size + 3) mt)
  case atStart => exact ⟨[], es.toList, #[], 0, HR5, Lib.hid (by simpa using HH.out.isT.perm), Lib.hid (fun t ht => by simp at ht), M4, Lib.hid (tabEnt_empty _ _), D4, I4, HX4, Lib.hid (by rw [Z4.out]; exact Nat.le_refl _)⟩
  case round =>
    obtain ⟨done, left, es2, c2, HR, HP, HDN, HM, HT, HD2, HI, HX, HZ⟩ := hrel
    go_wp2_with (at_next; refine wpList_next_rng _ rfl _ rfl (w.heap.size + 3) mt es c left rfl HR.out HH.out.isT.stamped ?_ ?_)
    · intro hl
      subst hl
      go_wp2
      go_ret
      have hp := HP.out
      simp only [List.map_nil, List.append_nil] at hp
      have hpt := perm_of_names HH.out.ok.tn HDN.out hp
      refine ⟨_, rfl, ⟨w.heap.size, w.heap.size + 1, es2, es', c2, c', HD2.out, HM.out, HI.out, HT.out.perm_ hpt HH.out.ok.tn, HH.out.isI, ?_, ?_, ?_, by omega, HH.out.ok⟩, HX.out⟩
      · show w.heap.size ≤ w.heap.size + 2; omega
      · show w.heap.size ≤ w.heap.size; omega
      · show w.heap.size ≤ w.heap.size + 1; omega
    · intro e left' w5 he hp hr5 hx5 hs5 hen
      obtain ⟨t, ao, cap, htf, hk, hv, hcols⟩ := HH.out.isT.entry HH.out.ok.tn (by simpa using he)
      have hp2 := ((hp.map (·.key)).append_left (done.map (fun t => Value.string t.name))).symm.trans HP.out
      simp only [List.map_cons] at hp2
      rw [hk] at hp2 hen ⊢
      rw [hv] at hen ⊢
      have hnd : tfind done t.name = none := by
        have hnn := hp2.nodup_iff.2 (strs_nodup HH.out.ok.tn)
        rw [List.nodup_append] at hnn
        unfold tfind
        rw [List.find?_eq_none]
        intro s hs hse
        exact hnn.2.2 (.string s.name) (List.mem_map.2 ⟨s, hs, rfl⟩) (.string t.name) (by simp) (by rw [beq_eq hse])
      have hz := HZ.out
      have h1 := hx5.heap HM.out (fun e => by omega)
      have h2 := hx5.heap HD2.out (fun e => by omega)
      have h3 := hx5.heap HI.out (fun e => by omega)
      have ht5 : TabEnt w5 (fun g => w.heap.size ≤ g ∧ g ≠ w.heap.size + 3) es2 c2 done := by
        refine TabEnt.chg (F := fun g => w.heap.size ≤ g ∧ g ≠ w.heap.size + 3) ?_ hx5 (fun g hg h => hg.2 h)
        exact ⟨HT.out.keys, HT.out.stamped, HT.out.perm, fun k => ⟨(HT.out.look k).1, fun s hs => by
          obtain ⟨v, a, b⟩ := (HT.out.look k).2 s hs
          refine ⟨v, a, ?_⟩
          obtain ⟨bo, bc, rfl, bq⟩ := b
          refine ⟨bo, bc, rfl, fun hn => ?_⟩
          obtain ⟨bb, of, rfl, q1, q2, q3⟩ := bq hn
          refine ⟨bb, of, rfl, q1, ⟨q2, fun e => ?_⟩, q3⟩
          subst e
          obtain ⟨seen, last, r1, _⟩ := HR.out.it
          have hcl : (colCells s.cols).length = s.cols.length * 4 := colCells_len s.cols
          have := q3 0 _ (List.getElem?_eq_getElem (by omega))
          simp [World.cell?, r1] at this⟩⟩
      have HX5 := Lib.hid (((HX.out.mono (G := fun k => w.heap.size ≤ k) (fun _ h => h.elim)).trans hx5 (fun k h => .inl (by omega))).mono (G := fun _ => False) (fun k hk => .inr hk))
      have HR5' := Lib.hid hr5; have HTF := Lib.hid htf; have HND := Lib.hid hnd; have HP2 := Lib.hid hp2; have HT5 := Lib.hid ht5; have H51 := Lib.hid h1; have H52 := Lib.hid h2; have H53 := Lib.hid h3; have HCO := Lib.hid hcols
      have HS5 := Lib.hid hs5
      have HLE : Hid (left.length = left'.length + 1) := Lib.hid (by simpa using hp.length_eq)
      have htc := (mayB_len (HH.out.ok.tm t (tfind_mem htf))).2.1
      have hz5 : w.heap.size + 4 ≤ w5.heap.size := by rw [hs5]; exact hz
      clear hr5 htf hnd hp2 ht5 h1 h2 h3 hx5 hs5 hp he hk hv hcols hz
      go_wp2
      obtain ⟨W6, hW6⟩ : ∃ W6, W6 = w5.alloc (.cells #[.string t.name, .slice ao t.cols.length cap] 27) := ⟨_, rfl⟩
      rw [← hW6]
      have X6 : Hid (Chg (fun _ => False) w5 W6) := Lib.hid (by subst hW6; exact (Chg.refl _ _).alloc _)
      have B6 : Hid (W6.heap[w5.heap.size]? = some (.cells #[.string t.name, .slice ao t.cols.length cap] 27 (0, 0))) := Lib.hid (by subst hW6; exact hal_new)
      clear hW6 hen
      have hS : ∀ W, Chg (fun _ => False) W6 W → W.cell? ⟨w.heap.size + 2, 0, none⟩ = some (.map (some w.heap.size)) ∧ W.cell? ⟨w5.heap.size, 0, none⟩ = some (.string t.name) ∧ W.cell? ⟨w5.heap.size, 1, none⟩ = some (.slice ao t.cols.length cap) := fun W hW => by
        have a := hW.heap B6.out (fun h => h)
        have b := (X6.out.trans hW (fun _ h => h.elim)).heap H52.out (fun h => h)
        exact ⟨cell_of_row W _ 0 _ _ _ b, cell_of_row W _ 0 _ _ _ a, cell_of_row W _ 1 _ _ _ a⟩
      have HS := Lib.hid hS
      clear hS
      refine wp_region_lex (fun W => W.cell? ⟨w.heap.size + 2, 0, none⟩ = some (.map (some w.heap.size)) ∧ W.cell? ⟨w5.heap.size, 0, none⟩ = some (.string t.name) ∧ W.cell? ⟨w5.heap.size, 1, none⟩ = some (.slice ao t.cols.length cap)) 7 [6, 7] [0, 1, 2, 3, 4, 5, 6, 7] (by kernel_rfl) (by kernel_rfl) (HS.out _ (Chg.refl _ _).drew) ?_
      iterate 6
        refine' lex_free (v := _) rfl rfl rfl ?_ (fun _ _ _ h => h) ?_
        rotate_left
        · rintro W ⟨hW1, hW2, hW3⟩
          go_simp
          with_reducible rfl
        try simp only [Act.put, List.setIfInBounds_toArray, List.set_cons_zero, List.set_cons_succ]
      refine lex_op rfl rfl rfl (fun K hK => ?_)
      go_simp
      refine (copied_any t.name _ F t.cols W6.drew (RowAt.quiet HCO.out ((HX5.out.trans X6.out (fun _ h => h.elim)).drew)) (by omega)).mono ?_
      rintro e w7 ⟨_, rfl, ⟨a7, k7, rfl, p7⟩, x7⟩
      have R7 : Hid (ColsAt w7 (fun k => W6.drew.heap.size ≤ k) (.slice a7 t.cols.length k7) t.cols) := Lib.hid ⟨a7, k7, rfl, p7⟩
      have X7 := Lib.hid ((Chg.refl (fun _ => False) W6).drew.trans x7 (fun _ h => h.elim))
      clear p7 x7
      refine hK _ _ (fun _ => HS.out _ X7.out) ?_
      clear hK K
      try simp only [Act.put, List.setIfInBounds_toArray, List.set_cons_zero, List.set_cons_succ]
      have X57 := Lib.hid (X6.out.trans X7.out (fun _ h => h.elim))
      have M7 := Lib.hid (X57.out.heap H51.out (fun h => h))
      have hmu := run_mapUpdate (P := Try.prog) w7 (t := 65) (kt := 9) (et := 27) (d := .string) (k := .string t.name) (v := .agg #[.string t.name, .slice a7 t.cols.length k7]) Try.underlying65 Try.underlying9 (by trivial) M7.out HT5.out.keys
      refine lex_op rfl rfl rfl (fun K hK => ?_)
      go_simp
      refine hK _ _ (fun h => absurd rfl h) ?_
      clear hK K
      try simp only [Act.put, List.setIfInBounds_toArray, List.set_cons_zero, List.set_cons_succ]
      refine lex_nil ?_
      clear hmu
      go_wp2
      have hz7 : w.heap.size + 4 ≤ w7.heap.size := Nat.le_trans hz5 X57.out.size
      have hzw : w5.heap.size ≤ W6.drew.heap.size := X6.out.size
      have YS : Hid (Chg (fun g => g = w.heap.size) w7 (setObj w7 w.heap.size (.map (mput es2 c2 (.string t.name) (.agg #[.string t.name, .slice a7 t.cols.length k7])) (mclock es2 c2 (.string t.name))))) := Lib.hid ((Chg.refl (fun g => g = w.heap.size) w7).setObj (.inl rfl) _)
      have HR8 : Hid (Rng (setObj w7 w.heap.size (.map (mput es2 c2 (.string t.name) (.agg #[.string t.name, .slice a7 t.cols.length k7])) (mclock es2 c2 (.string t.name)))) (w.heap.size + 3) mt es c left') := Lib.hid ((HR5'.out.chg X57.out (fun h => h) (fun h => h)).chg YS.out (by omega) (by have := lt_of_heap HH.out.mapT; omega))
      go_roundw
      case rel =>
        refine ⟨done ++ [t], left', _, _, HR8, Lib.hid ?_, Lib.hid ?_, Lib.hid (hobj_eq (lt_of_heap M7.out)), Lib.hid ?_, Lib.hid ?_, Lib.hid ?_, Lib.hid ?_, Lib.hid ?_⟩
        · rw [List.map_append, List.append_assoc]
          exact HP2.out
        · intro s hs
          rcases List.mem_append.1 hs with hs | hs
          · exact HDN.out s hs
          · simp at hs; subst hs; exact HTF.out
        · have h8 := ((HT5.out.chg X57.out (fun _ _ h => h)).setObj M7.out (.map (mput es2 c2 (.string t.name) (.agg #[.string t.name, .slice a7 t.cols.length k7])) (mclock es2 c2 (.string t.name)))).mono (G := fun g => w.heap.size ≤ g) (fun g hg _ => hg.1)
          exact h8.put t _ (RowAt.setObj (RowAt.mono R7.out (fun k hk hl => by show w.heap.size ≤ k; omega)) (fun hp he => by have := colCells_len t.cols; rw [he] at this; simp at this; omega) M7.out _) HND.out
        · rw [hobj_ne (by omega)]; exact X57.out.heap H52.out (fun h => h)
        · rw [hobj_ne (by omega)]; exact X57.out.heap H53.out (fun h => h)
        · exact (HX5.out.trans X57.out (fun _ h => h.elim)).setObj (.inr (Nat.le_refl _)) _
        · show w.heap.size + 4 ≤ (setObj _ _ _).heap.size
          simp only [size_setObj]
          exact hz7
      case measure =>
        rw [HR8.out.left_eq, HR.out.left_eq]
        have := HLE.out
        omega
end Go.Proofs.Ytpiijcjbphpffaa
