/-
  What AddTable does. No condition beyond each lemma's own.
-/
import Derived.Test.YtpiijcjbphpffaaCCat
set_option autoImplicit false
namespace Go.Proofs.Ytpiijcjbphpffaa
open Go Go.RowKit

def Cat.addTR (C : Cat) (t : Tab) : Int := if mayB t.name t.cols then (if (tfind C.T t.name).isSome then 32 else if 16 ≤ C.T.length then 20 else 0) else 1
def Cat.addT (C : Cat) (t : Tab) : Cat := if C.addTR t = 0 then ⟨C.T ++ [t], C.I⟩ else C
theorem addT_nil (ao : Option Addr) (l c : Nat) (w : World) (n : ByteArray) : Calls Try.prog 10 #[.pointer none, .agg #[.string n, .slice ao l c]] w fun e w' => e = .returned (.int .i64 2) ∧ Chg (fun _ => False) w w' := by
  go_enter Try.func10, Try.ntmps10
  go_wp2
  go_ret
  exact ⟨rfl, (Chg.refl _ _).alloc _⟩
theorem tfind_isSome {T : List Tab} {k : ByteArray} : (tfind T k).isSome = false ↔ tfind T k = none := by
  cases tfind T k <;> simp
theorem Cat.ok.addT {C : Cat} (h : C.ok) {t : Tab} (h1 : mayB t.name t.cols = true) (h2 : tfind C.T t.name = none) (h3 : C.T.length < 16) : Cat.ok ⟨C.T ++ [t], C.I⟩ := by
  refine ⟨?_, ?_, by simp; omega, ?_, h.inn, h.i16⟩
  · show ((C.T ++ [t]).map (·.name)).Nodup
    rw [List.map_append, List.nodup_append]
    refine ⟨h.tn, by simp, fun a ha b hb => ?_⟩
    simp at hb
    subst hb
    obtain ⟨s, hs, rfl⟩ := List.mem_map.1 ha
    exact tfind_none h2 s hs
  · intro s hs
    rcases List.mem_append.1 hs with hs | hs
    · exact h.tm s hs
    · simp at hs; subst hs; exact h1
  · intro x hx
    obtain ⟨a, s, hs, b⟩ := h.im x hx
    refine ⟨a, s, ?_, b⟩
    show tfind (C.T ++ [t]) x.tab = some s
    rw [tfind_app, hs]; rfl
set_option maxRecDepth 100000 in
set_option maxHeartbeats 1000000 in
theorem addT_any (r : Nat) (F G : Nat → Prop) (C : Cat) (t : Tab) (v : Value) (w : World) (h : CatAt w r F C) (hv : ColsAt w G v t.cols) (hm : t.cols.length ≤ 9223372036854775807) (hn : big t.name) (hb : ∀ c ∈ t.cols, big c.name) :
    Calls Try.prog 10 #[.pointer (some ⟨r, 0, none⟩), .agg #[.string t.name, v]] w fun e w' => e = .returned (.int .i64 (C.addTR t)) ∧ CatAt w' r (Ext F w w') (C.addT t) ∧ Chg F w w' := by
  obtain ⟨mt, mi, es, es', c, c', h⟩ := h
  obtain ⟨c0, c1, c2⟩ := h.cells
  obtain ⟨ao, cap, rfl, hp⟩ := hv
  have HV : Hid (ColsAt w G (.slice ao t.cols.length cap) t.cols) := Lib.hid ⟨ao, cap, rfl, hp⟩
  have HH := Lib.hid h; have HB := Lib.hid hb
  obtain ⟨lo, lc, hl1, hl2⟩ := h.isT.val t.name
  have HL := Lib.hid hl2
  have hsz := h.isT.size
  have HZ := Lib.hid hsz
  clear h hp hb hl1 hl2 hsz
  have hst : ∀ x, C.addTR t = x → Hid (C.addTR t = x) := fun x h => Lib.hid h
  cases hmay : mayB t.name t.cols with
  | false =>
    have HR := hst 1 (by unfold Cat.addTR; rw [hmay]; rfl)
    have HM := Lib.hid hmay
    clear hst hmay
    go_enter Try.func10, Try.ntmps10
    go_wp2_with fail
    refine (may_any t.name _ G t.cols _ (RowAt.quiet HV.out ((Chg.refl _ _).alloc _)) hm hn HB.out).mono ?_
    rw [HM.out]
    rintro e w1 ⟨rfl, x1⟩
    have X1 := Lib.hid x1
    clear x1
    go_wp2
    go_ret
    have x2 := ((Chg.refl (fun _ => False) w).alloc (.cells #[.string t.name, .slice ao t.cols.length cap] 27)).trans X1.out (fun _ h => h.elim)
    refine ⟨by rw [HR.out]; rfl, ?_, x2.mono (fun _ h => h.elim)⟩
    unfold Cat.addT
    rw [HR.out, if_neg (by omega)]
    exact CatAt.mono (CatAt.quiet ⟨mt, mi, es, es', c, c', HH.out⟩ x2) (fun k hk _ => .inl hk)
  | true =>
    have HM := Lib.hid hmay
    clear hmay
    go_enter Try.func10, Try.ntmps10
    go_wp2_with fail
    refine (may_any t.name _ G t.cols _ (RowAt.quiet HV.out ((Chg.refl _ _).alloc _)) hm hn HB.out).mono ?_
    rw [HM.out]
    rintro e w1 ⟨rfl, x1⟩
    have x2 := ((Chg.refl (fun _ => False) w).alloc (.cells #[.string t.name, .slice ao t.cols.length cap] 27)).trans x1 (fun _ h => h.elim)
    have X2 := Lib.hid x2
    have hq := HH.out.quiet x2
    have b1 := x1.heap hal_new (fun h => h)
    have e0 := cell_of_row w1 w.heap.size 0 _ _ _ b1
    have e1 := cell_of_row w1 w.heap.size 1 _ _ _ b1
    obtain ⟨d0, d1, d2⟩ := hq.cells
    have hmt := hq.mapT
    have HQ := Lib.hid hq; have B1 := Lib.hid b1
    clear x1 x2 hq b1 hst
    clear c0 c1 c2
    go_wp2
    refine wp_region_lex (fun w' => w'.cell? ⟨w.heap.size, 0, none⟩ = some (.string t.name) ∧ w'.cell? ⟨r, 0, none⟩ = some (.map (some mt)) ∧ w'.heap[mt]? = some (.map es c)) 12 [10, 11, 12] [0, 1, 2, 3, 4, 5, 6, 7, 8, 9, 10, 11, 12] (by kernel_rfl) (by kernel_rfl) ⟨e0, d0, hmt⟩ ?_
    iterate 6
      refine' lex_free (v := _) rfl rfl rfl ?_ (fun _ _ _ h => h) ?_
      rotate_left
      · rintro W ⟨hW1, hW2, _⟩
        go_simp
        with_reducible rfl
      try simp only [Act.put, List.setIfInBounds_toArray, List.set_cons_zero, List.set_cons_succ]
    refine lex_free (v := .tuple #[.agg #[.string (nameAt C.T t.name), .slice lo (colsOf C.T t.name).length lc], .bool (tfind C.T t.name).isSome]) rfl rfl rfl (fun W hW => exec_lookup rfl rfl rfl (HL.out W _ _ hW.2.2).1) (fun _ _ _ h => h) ?_
    try simp only [Act.put, List.setIfInBounds_toArray, List.set_cons_zero, List.set_cons_succ]
    iterate 3
      refine' lex_free (v := _) rfl rfl rfl ?_ (fun _ _ _ h => h) ?_
      rotate_left
      · rintro W ⟨hW1, hW2, _⟩
        go_simp
        with_reducible rfl
      try simp only [Act.put, List.setIfInBounds_toArray, List.set_cons_zero, List.set_cons_succ]
    have hS : ∀ W, Chg (fun _ => False) w1 W → W.cell? ⟨w.heap.size, 0, none⟩ = some (.string t.name) ∧ W.cell? ⟨r, 0, none⟩ = some (.map (some mt)) ∧ W.heap[mt]? = some (.map es c) := fun W hW => by
      have a := hW.heap B1.out (fun h => h)
      have b := HQ.out.quiet hW
      exact ⟨cell_of_row W w.heap.size 0 _ _ _ a, b.cells.1, b.mapT⟩
    have HS := Lib.hid hS
    clear hS
    refine lex_op rfl rfl rfl (fun K hK => ?_)
    go_simp
    refine hK _ _ (fun _ => HS.out _ ((Chg.refl _ _).drew.alloc _)) ?_
    clear hK K
    try simp only [Act.put, List.setIfInBounds_toArray, List.set_cons_zero, List.set_cons_succ]
    refine lex_op rfl rfl rfl (fun K hK => ?_)
    go_simp
    refine hK _ _ (fun _ => HS.out _ ((Chg.refl _ _).drew.alloc _)) ?_
    clear hK K
    try simp only [Act.put, List.setIfInBounds_toArray, List.set_cons_zero, List.set_cons_succ]
    refine lex_op rfl rfl rfl (fun K hK => ?_)
    go_simp
    refine hK _ _ (fun h => absurd rfl h) ?_
    clear hK K
    try simp only [Act.put, List.setIfInBounds_toArray, List.set_cons_zero, List.set_cons_succ]
    refine lex_nil ?_
    have C3 := Lib.hid (show Chg (fun _ => False) w1 ((w1.alloc (.cells #[.string (nameAt C.T t.name), .slice lo (colsOf C.T t.name).length lc] 27)).drew) from ((Chg.refl _ _).alloc _).drew)
    have h3 := HQ.out.quiet C3.out
    have k0 := h3.cells.1
    have km := h3.mapT
    have b3 := C3.out.heap B1.out (fun h => h)
    have B3 := Lib.hid b3
    have hu : Try.prog.underlying 65 = some (.map (Try.prog.mapKeyOf 65) (Try.prog.mapElemOf 65)) := by kernel_rfl
    have hlen := fun ty => run_len_map (P := Try.prog) (w := (w1.alloc (.cells #[.string (nameAt C.T t.name), .slice lo (colsOf C.T t.name).length lc] 27)).drew) 65 ty mt es c hu km
    clear h3 b3 hu
    cases hf : (tfind C.T t.name).isSome with
    | true =>
      have HR := Lib.hid (show C.addTR t = 32 by unfold Cat.addTR; rw [HM.out, hf]; rfl)
      clear hf
      go_wp2
      go_ret
      have x4 := X2.out.trans C3.out (fun _ h => h.elim)
      refine ⟨by rw [HR.out]; rfl, ?_, x4.mono (fun _ h => h.elim)⟩
      unfold Cat.addT
      rw [HR.out, if_neg (by omega)]
      exact CatAt.mono (CatAt.quiet ⟨mt, mi, es, es', c, c', HH.out⟩ x4) (fun k hk _ => .inl hk)
    | false =>
      have HF := Lib.hid (tfind_isSome.1 hf)
      by_cases h16 : 16 ≤ C.T.length
      · have HR := Lib.hid (show C.addTR t = 20 by unfold Cat.addTR; rw [HM.out, hf, if_pos h16]; rfl)
        have hes : 16 ≤ es.size := by rw [HZ.out]; exact h16
        clear hf
        go_wp2
        go_ret
        have x4 := X2.out.trans C3.out (fun _ h => h.elim)
        refine ⟨by rw [HR.out]; rfl, ?_, x4.mono (fun _ h => h.elim)⟩
        unfold Cat.addT
        rw [HR.out, if_neg (by omega)]
        exact CatAt.mono (CatAt.quiet ⟨mt, mi, es, es', c, c', HH.out⟩ x4) (fun k hk _ => .inl hk)
      · have HR := Lib.hid (show C.addTR t = 0 by unfold Cat.addTR; rw [HM.out, hf, if_neg h16]; rfl)
        have hes : es.size < 16 := by rw [HZ.out]; omega
        clear hf
        go_wp2
        obtain ⟨W3, hW3⟩ : ∃ W3, W3 = (w1.alloc (.cells #[.string (nameAt C.T t.name), .slice lo (colsOf C.T t.name).length lc] 27)).drew := ⟨_, rfl⟩
        rw [← hW3] at C3 B3
        rw [← hW3]
        clear hW3 hlen k0 km
        have hS : ∀ W, Chg (fun _ => False) W3 W → W.cell? ⟨w.heap.size, 0, none⟩ = some (.string t.name) ∧ W.cell? ⟨w.heap.size, 1, none⟩ = some (.slice ao t.cols.length cap) ∧ W.cell? ⟨r, 0, none⟩ = some (.map (some mt)) := fun W hW => by
          have a := hW.heap B3.out (fun h => h)
          exact ⟨cell_of_row W w.heap.size 0 _ _ _ a, cell_of_row W w.heap.size 1 _ _ _ a, (HQ.out.quiet (C3.out.trans hW (fun _ h => h.elim))).cells.1⟩
        have HS3 := Lib.hid hS
        clear hS e0 e1 d0 d1 hmt
        refine wp_region_lex (fun w' => w'.cell? ⟨w.heap.size, 0, none⟩ = some (.string t.name) ∧ w'.cell? ⟨w.heap.size, 1, none⟩ = some (.slice ao t.cols.length cap) ∧ w'.cell? ⟨r, 0, none⟩ = some (.map (some mt))) 8 [7, 8] [0, 1, 2, 3, 4, 5, 6, 7, 8] (by kernel_rfl) (by kernel_rfl) (HS3.out _ (Chg.refl _ _).drew) ?_
        iterate 7
          refine' lex_free (v := _) rfl rfl rfl ?_ (fun _ _ _ h => h) ?_
          rotate_left
          · rintro W ⟨hW1, hW2, hW3⟩
            go_simp
            with_reducible rfl
          try simp only [Act.put, List.setIfInBounds_toArray, List.set_cons_zero, List.set_cons_succ]
        refine lex_op rfl rfl rfl (fun K hK => ?_)
        go_simp
        refine (copied_any t.name _ G t.cols W3.drew (RowAt.quiet HV.out ((X2.out.trans C3.out (fun _ h => h.elim)).drew)) (by have := (mayB_len HM.out).2.1; omega)).mono ?_
        rintro e w5 ⟨_, rfl, ⟨a5, k5, rfl, p5⟩, x5⟩
        have R5 : Hid (ColsAt w5 (fun k => W3.drew.heap.size ≤ k) (.slice a5 t.cols.length k5) t.cols) := Lib.hid ⟨a5, k5, rfl, p5⟩
        have X5 := Lib.hid ((Chg.refl (fun _ => False) W3).drew.trans x5 (fun _ h => h.elim))
        clear p5 x5
        refine hK _ _ (fun _ => HS3.out _ X5.out) ?_
        clear hK K
        try simp only [Act.put, List.setIfInBounds_toArray, List.set_cons_zero, List.set_cons_succ]
        have x6 := X2.out.trans (C3.out.trans X5.out (fun _ h => h.elim)) (fun _ h => h.elim)
        have h6 := HH.out.quiet x6
        have hmu := run_mapUpdate (P := Try.prog) w5 (t := 65) (kt := 9) (et := 27) (d := .string) (k := .string t.name) (v := .agg #[.string t.name, .slice a5 t.cols.length k5]) Try.underlying65 Try.underlying9 (by trivial) h6.mapT h6.isT.keys
        have X6 := Lib.hid x6; have H6 := Lib.hid h6
        clear x6 h6
        refine lex_op rfl rfl rfl (fun K hK => ?_)
        go_simp
        refine hK _ _ (fun h => absurd rfl h) ?_
        clear hK K
        try simp only [Act.put, List.setIfInBounds_toArray, List.set_cons_zero, List.set_cons_succ]
        refine lex_nil ?_
        clear hmu
        go_wp2
        go_ret
        have hh := H6.out
        have hC : C.addT t = ⟨C.T ++ [t], C.I⟩ := by unfold Cat.addT; rw [HR.out, if_pos rfl]
        have z5 : W3.drew.heap.size ≤ w5.heap.size := X5.out.size
        have zw : w.heap.size ≤ W3.drew.heap.size := Nat.le_trans X2.out.size C3.out.size
        refine ⟨by rw [HR.out]; rfl, ?_, (X6.out.mono (fun _ h => h.elim)).setObj (.inl hh.ft) _⟩
        rw [hC]
        refine ⟨mt, mi, _, es', _, c', ?_, hobj_eq (lt_of_heap hh.mapT), ?_, ?_, hh.isI, .inl hh.fr, .inl hh.ft, .inl hh.fi, hh.ne, hh.ok.addT HM.out HF.out (by omega)⟩
        · rw [hobj_ne hh.nrt.symm]; exact hh.self
        · rw [hobj_ne hh.ne.symm]; exact hh.mapI
        · have hm := (hh.isT.mono (G := Ext F w w5) (fun k hk hl => .inl hk)).setObj hh.mapT (.map (mput es c (.string t.name) (.agg #[.string t.name, .slice a5 t.cols.length k5])) (mclock es c (.string t.name)))
          have := hm.put t (.slice a5 t.cols.length k5) (RowAt.setObj (RowAt.mono R5.out (fun k hk hl => .inr ⟨by omega, hl⟩)) (fun hp he => by have := colCells_len t.cols; rw [he] at this; simp at this; omega) hh.mapT _) HF.out
          exact this.mono (fun k hk hl => by
            rcases hk with hk | hk
            · exact .inl hk
            · exact .inr ⟨hk.1, hl⟩)
end Go.Proofs.Ytpiijcjbphpffaa
