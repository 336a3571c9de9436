/-
  The law's comparison of a catalog with the document's, where both are alike. No condition beyond each lemma's own.
-/
import Derived.Test.YtpiijcjbphpffaaCRIdx
import Derived.Test.YtpiijcjbphpffaaCRMay
import Derived.Test.YtpiijcjbphpffaaCSame
import Derived.Test.YtpiijcjbphpffaaCLike
set_option autoImplicit false
namespace Go.Proofs.Ytpiijcjbphpffaa
open Go Go.RowKit
attribute [local go_sem] field_tab0 field_tab1

theorem tfind_bad {C : Cat} (h : C.ok) {k : ByteArray} (hk : nameB k = false) : tfind C.T k = none := by
  cases hf : tfind C.T k with
  | none => rfl
  | some t =>
    have := (mayB_len (h.tm t (tfind_mem hf))).2.2.1
    rw [tfind_name hf, hk] at this
    cases this
theorem alike_nil (w : World) : Calls Try.prog 17 #[.pointer none, .pointer none] w fun e w' => e = .returned (.bool true) ∧ Chg (fun _ => False) w w' := by
  go_enter Try.func17, Try.ntmps17
  go_wp2_with fail
  refine (tables_nil w).mono ?_
  rintro e w1 ⟨rfl, rfl⟩
  go_wp2_with fail
  refine (rtables_nil w).mono ?_
  rintro e w1 ⟨rfl, rfl⟩
  go_wp2_with fail
  go_loopw [7] (fun s wr => ∃ k : Nat, k ≤ 0 ∧ s = .int .i64 k ∧ Hid (Chg (fun _ => False) w wr)) (fun s _ => 0 - (intOf s).toNat)
  case atStart => exact ⟨0, Nat.le_refl _, rfl, Lib.hid (Chg.refl _ _)⟩
  case round =>
    obtain ⟨k, hk, rfl, HX⟩ := hrel
    obtain rfl : k = 0 := by omega
    go_wp2_with fail
    refine (table_nil ⟨#[]⟩ _).mono ?_
    rintro e w1 ⟨rfl, x1⟩
    have X1 := Lib.hid (HX.out.trans x1 (fun _ h => h.elim))
    clear x1
    go_wp2_with fail
    refine (indexes_nil ⟨#[63]⟩ _).mono ?_
    rintro e w2 ⟨rfl, rfl⟩
    go_wp2
    go_ret
    exact ⟨rfl, X1.out.alloc _⟩
set_option maxRecDepth 100000 in
set_option maxHeartbeats 4000000 in
theorem alike_like (rc : Nat) (F : Nat → Prop) (D C : Cat) (lo rr : Nat) (K : Nat → Prop) (vt vi : Value) (w : World) (hc : CatAt w rc F D) (hr : RAt w lo rr K vt vi C) (hl : Like C D) :
    Calls Try.prog 17 #[.pointer (some ⟨rc, 0, none⟩), .pointer (some ⟨rr, 0, none⟩)] w fun e w' => e = .returned (.bool true) ∧ Chg (fun _ => False) w w' := by
  have HC := Lib.hid hc; have HR := Lib.hid hr
  have hok := hr.ok
  have HLT := Lib.hid (hl.tables hok); have HLI := Lib.hid (fun n => hl.indexes hok n); have HLF := Lib.hid (fun n => hl.tfind hok n)
  have HLC := Lib.hid (fun n => hl.cols hok n)
  have HLN := Lib.hid (fun n => (show nameAt D.T n = nameAt C.T n by unfold nameAt; rw [hl.tfind hok]))
  have hn : C.tables.length ≤ 16 := by rw [tables_len]; exact hok.t16
  have HTF := Lib.hid (fun k t (ht : C.tables[k]? = some t) => (⟨tfind_of_mem hok.tn ((byNameT_perm C.T).mem_iff.1 (List.mem_of_getElem? ht)), (mayB_len (hok.tm t ((byNameT_perm C.T).mem_iff.1 (List.mem_of_getElem? ht)))).2.1⟩ : tfind C.T t.name = some t ∧ t.cols.length ≤ 16))
  have HE1 := Lib.hid (tfind_bad hok (k := ⟨#[]⟩) rfl)
  have HE2 := Lib.hid (indexes_none hok (tfind_bad hok (k := ⟨#[63]⟩) rfl))
  have HIL := Lib.hid (fun t : ByteArray => (show (C.indexes t).length ≤ 100 by
    have e : (C.indexes t).length = (uniqOf t (colsOf C.T t)).length + (C.made t).length := by unfold Cat.indexes; rw [List.length_append]
    have a1 := uniqTo_len t (colsOf C.T t) (colsOf C.T t).length
    have a2 := hok.made_len t
    have a3 := hok.cols t
    unfold uniqOf at e
    omega))
  clear hc hr hok hl
  generalize hts : C.tables = ts at *
  have HTS := Lib.hid hts
  clear hts
  go_enter Try.func17, Try.ntmps17
  go_wp2_with fail
  refine (tables_any rc F D w HC.out).mono ?_
  rw [HLT.out]
  rintro e w1 ⟨_, rfl, ⟨us1, he1, ao1, cap1, rfl, hp1⟩, x1⟩
  have HT1 := Lib.hid (show TabsAt w1 _ (.slice ao1 ts.length cap1) ts from ⟨us1, he1, ao1, cap1, rfl, hp1⟩)
  have X1 := Lib.hid x1
  clear he1 hp1 x1
  go_wp2_with fail
  refine (rtables_any lo rr K vt vi C w1 (HR.out.quiet X1.out)).mono ?_
  rw [HTS.out]
  rintro e w2 ⟨_, rfl, ⟨us2, he2, ao2, cap2, rfl, hp2⟩, x2⟩
  have HT2 := Lib.hid (show TabsAt w2 _ (.slice ao2 ts.length cap2) ts from ⟨us2, he2, ao2, cap2, rfl, hp2⟩)
  have X2 := Lib.hid (X1.out.trans x2 (fun _ h => h.elim)); have X12 := Lib.hid x2
  clear he2 hp2 x2
  go_wp2
  go_loopw [7] (fun s wr => ∃ k : Nat, k ≤ ts.length ∧ s = .int .i64 k ∧ Hid (Chg (fun _ => False) w2 wr)) (fun s _ => ts.length - (intOf s).toNat)
  case atStart => exact ⟨0, Nat.zero_le _, rfl, Lib.hid (Chg.refl _ _)⟩
  case round =>
    obtain ⟨k, hk, rfl, HX⟩ := hrel
    have HW := Lib.hid (X2.out.trans HX.out (fun _ h => h.elim))
    by_cases hlt : k < ts.length
    · obtain ⟨t, ht⟩ : ∃ t, ts[k]? = some t := ⟨_, List.getElem?_eq_getElem hlt⟩
      obtain ⟨b1, o1, a3, k3, rfl, hb1, _, p0, p1, pc⟩ := TabsAt.tab (HT1.out.quiet (X12.out.trans HX.out (fun _ h => h.elim))) ht
      obtain ⟨b2, o2, a4, k4, rfl, hb2, _, q0, q1, qc⟩ := TabsAt.tab (HT2.out.quiet HX.out) ht
      obtain ⟨htf, htc⟩ := HTF.out k t ht
      have hcs : colsOf C.T t.name = t.cols := by unfold colsOf; rw [htf]
      have hna : nameAt C.T t.name = t.name := by unfold nameAt; rw [htf]; rfl
      have PC := Lib.hid pc; have QC := Lib.hid qc
      have P0 := Lib.hid p0; have P1 := Lib.hid p1; have Q0 := Lib.hid q0; have Q1 := Lib.hid q1
      have htb := table_any rc F D t.name wr (HC.out.quiet HW.out)
      rw [HLC.out, HLN.out, HLF.out, hcs, hna, htf] at htb
      clear htf hcs hna ht pc qc
      go_wp2_with fail
      refine htb.mono ?_
      rintro e w3 ⟨_, rfl, ⟨a5, k5, rfl, hp5⟩, x3⟩
      have HC5 := Lib.hid (show ColsAt w3 _ (.slice a5 t.cols.length k5) t.cols from ⟨a5, k5, rfl, hp5⟩)
      have X3 := Lib.hid x3
      clear hp5 x3 htb p0 p1 q0 q1
      go_wp2
      obtain ⟨W4, hW4⟩ : ∃ W4, W4 = w3.alloc (.cells #[.string t.name, .slice a5 t.cols.length k5] 27) := ⟨_, rfl⟩
      rw [← hW4]
      have X4 : Hid (Chg (fun _ => False) wr W4) := Lib.hid (by subst hW4; exact X3.out.alloc _)
      have X34 : Hid (Chg (fun _ => False) w3 W4) := Lib.hid (by subst hW4; exact (Chg.refl _ _).alloc _)
      have B4 : Hid (W4.heap[w3.heap.size]? = some (.cells #[.string t.name, .slice a5 t.cols.length k5] 27 (0, 0))) := Lib.hid (by subst hW4; exact hal_new)
      clear hW4
      have hS : ∀ W, Chg (fun _ => False) W4 W → W.cell? ⟨b1, o1 + k * 2, none⟩ = some (.string t.name) ∧ W.cell? ⟨b1, o1 + k * 2 + 1, none⟩ = some (.slice a3 t.cols.length k3) ∧ W.cell? ⟨b2, o2 + k * 2, none⟩ = some (.string t.name) ∧ W.cell? ⟨b2, o2 + k * 2 + 1, none⟩ = some (.slice a4 t.cols.length k4) ∧ W.cell? ⟨w3.heap.size, 0, none⟩ = some (.string t.name) ∧ W.cell? ⟨w3.heap.size, 1, none⟩ = some (.slice a5 t.cols.length k5) := fun W hW => by
        have h1 := X4.out.trans hW (fun _ h => h.elim)
        have c1 := h1.keep b1 hb1 (fun h => h)
        have c2 := h1.keep b2 hb2 (fun h => h)
        have c3 := hW.heap B4.out (fun h => h)
        exact ⟨(cell_of_heap c1).trans P0.out, (cell_of_heap c1).trans P1.out, (cell_of_heap c2).trans Q0.out, (cell_of_heap c2).trans Q1.out, cell_of_row W _ 0 _ _ _ c3, cell_of_row W _ 1 _ _ _ c3⟩
      have HS := Lib.hid hS
      clear hS
      refine wp_region_lex (fun W => W.cell? ⟨b1, o1 + k * 2, none⟩ = some (.string t.name) ∧ W.cell? ⟨b1, o1 + k * 2 + 1, none⟩ = some (.slice a3 t.cols.length k3) ∧ W.cell? ⟨b2, o2 + k * 2, none⟩ = some (.string t.name) ∧ W.cell? ⟨b2, o2 + k * 2 + 1, none⟩ = some (.slice a4 t.cols.length k4) ∧ W.cell? ⟨w3.heap.size, 0, none⟩ = some (.string t.name) ∧ W.cell? ⟨w3.heap.size, 1, none⟩ = some (.slice a5 t.cols.length k5)) 99 [11, 20, 27, 31, 32] [0, 1, 2, 3, 4, 5, 6, 7, 8, 9, 10, 11, 12, 13, 14, 15, 16, 17, 18, 19, 20, 21, 22, 23, 24, 25, 26, 28, 29, 30, 27, 31, 32, 33, 34] (by kernel_rfl) (by kernel_rfl) (HS.out _ (Chg.refl _ _).drew) ?_
      iterate 3
        refine' lex_free (v := _) rfl rfl rfl ?_ (fun _ _ _ h => h) ?_
        rotate_left
        · rintro W ⟨hW1, hW2, hW3, hW4, hW5, hW6⟩
          go_simp
          with_reducible rfl
        try simp only [Act.put, List.setIfInBounds_toArray, List.set_cons_zero, List.set_cons_succ]
      iterate 8
        refine' lex_freeG (v := _) rfl rfl rfl ?_ (fun _ _ _ h => h) ?_
        rotate_left
        · rintro W ⟨hW1, hW2, hW3, hW4, hW5, hW6⟩
          go_simp
          with_reducible rfl
        try simp only [Act.put, List.setIfInBounds_toArray, List.set_cons_zero, List.set_cons_succ]
      refine lex_opG rfl rfl rfl (fun K hK => ?_)
      go_simp
      refine (rsameT_any t.name _ _ _ _ t.cols W4.drew (RowAt.quiet PC.out X4.out.drew) (RowAt.quiet QC.out X4.out.drew) (by omega)).mono ?_
      rintro e w5 ⟨rfl, x5⟩
      have X5 := Lib.hid ((Chg.refl (fun _ => False) W4).drew.trans x5 (fun _ h => h.elim))
      clear x5
      refine hK _ _ (fun _ => HS.out _ X5.out) ?_
      clear hK K
      try simp only [Act.put, List.setIfInBounds_toArray, List.set_cons_zero, List.set_cons_succ]
      iterate 1
        refine' lex_freeG (v := _) rfl rfl rfl ?_ (fun _ _ _ h => h) ?_
        rotate_left
        · rintro W ⟨hW1, hW2, hW3, hW4, hW5, hW6⟩
          go_simp
          with_reducible rfl
        try simp only [Act.put, List.setIfInBounds_toArray, List.set_cons_zero, List.set_cons_succ]
      iterate 2
        refine' lex_free (v := _) rfl rfl rfl ?_ (fun _ _ _ h => h) ?_
        rotate_left
        · rintro W ⟨hW1, hW2, hW3, hW4, hW5, hW6⟩
          go_simp
          with_reducible rfl
        try simp only [Act.put, List.setIfInBounds_toArray, List.set_cons_zero, List.set_cons_succ]
      iterate 5
        refine' lex_freeG (v := _) rfl rfl rfl ?_ (fun _ _ _ h => h) ?_
        rotate_left
        · rintro W ⟨hW1, hW2, hW3, hW4, hW5, hW6⟩
          go_simp
          with_reducible rfl
        try simp only [Act.put, List.setIfInBounds_toArray, List.set_cons_zero, List.set_cons_succ]
      refine lex_opG rfl rfl rfl (fun K hK => ?_)
      go_simp
      refine (rsameT_any t.name _ _ _ _ t.cols w5 (RowAt.quiet HC5.out (X34.out.trans X5.out (fun _ h => h.elim))) (RowAt.quiet QC.out (X4.out.trans X5.out (fun _ h => h.elim))) (by omega)).mono ?_
      rintro e w6 ⟨rfl, x6⟩
      have X6 := Lib.hid (X5.out.trans x6 (fun _ h => h.elim))
      clear x6
      refine hK _ _ (fun _ => HS.out _ X6.out) ?_
      clear hK K
      try simp only [Act.put, List.setIfInBounds_toArray, List.set_cons_zero, List.set_cons_succ]
      iterate 1
        refine' lex_freeG (v := _) rfl rfl rfl ?_ (fun _ _ _ h => h) ?_
        rotate_left
        · rintro W ⟨hW1, hW2, hW3, hW4, hW5, hW6⟩
          go_simp
          with_reducible rfl
        try simp only [Act.put, List.setIfInBounds_toArray, List.set_cons_zero, List.set_cons_succ]
      iterate 2
        refine' lex_free (v := _) rfl rfl rfl ?_ (fun _ _ _ h => h) ?_
        rotate_left
        · rintro W ⟨hW1, hW2, hW3, hW4, hW5, hW6⟩
          go_simp
          with_reducible rfl
        try simp only [Act.put, List.setIfInBounds_toArray, List.set_cons_zero, List.set_cons_succ]
      iterate 6
        refine' lex_freeG (v := _) rfl rfl rfl ?_ (fun _ _ _ h => h) ?_
        rotate_left
        · rintro W ⟨hW1, hW2, hW3, hW4, hW5, hW6⟩
          go_simp
          with_reducible rfl
        try simp only [Act.put, List.setIfInBounds_toArray, List.set_cons_zero, List.set_cons_succ]
      have HW6 := Lib.hid (HW.out.trans (X4.out.trans X6.out (fun _ h => h.elim)) (fun _ h => h.elim))
      refine lex_opG rfl rfl rfl (fun K hK => ?_)
      go_simp
      refine (indexes_any rc F D t.name w6 (HC.out.quiet HW6.out)).mono ?_
      rw [HLI.out]
      rintro e w7 ⟨_, rfl, ⟨a7, k7, rfl, hp7⟩, x7⟩
      have HI7 := Lib.hid (show IxsAt w7 _ (.slice a7 (C.indexes t.name).length k7) (C.indexes t.name) from ⟨a7, k7, rfl, hp7⟩)
      have X7 := Lib.hid (X6.out.trans x7 (fun _ h => h.elim)); have HW7 := Lib.hid (HW6.out.trans x7 (fun _ h => h.elim))
      clear x7 hp7
      refine hK _ _ (fun _ => HS.out _ X7.out) ?_
      clear hK K
      try simp only [Act.put, List.setIfInBounds_toArray, List.set_cons_zero, List.set_cons_succ]
      refine lex_opG rfl rfl rfl (fun K hK => ?_)
      go_simp
      refine (rindexes_any lo rr _ vt vi C t.name w7 (HR.out.quiet HW7.out)).mono ?_
      rintro e w8 ⟨_, rfl, ⟨a8, k8, rfl, hp8⟩, x8⟩
      have HI8 := Lib.hid (show IxsAt w8 _ (.slice a8 (C.indexes t.name).length k8) (C.indexes t.name) from ⟨a8, k8, rfl, hp8⟩)
      have X8 := Lib.hid (X7.out.trans x8 (fun _ h => h.elim)); have X78 := Lib.hid x8
      clear x8 hp8
      refine hK _ _ (fun _ => HS.out _ X8.out) ?_
      clear hK K
      try simp only [Act.put, List.setIfInBounds_toArray, List.set_cons_zero, List.set_cons_succ]
      refine lex_opG rfl rfl rfl (fun K hK => ?_)
      go_simp
      refine (sameIx_any _ _ _ _ (C.indexes t.name) w8 (RowAt.quiet HI7.out X78.out) HI8.out (by have := HIL.out t.name; omega)).mono ?_
      rintro e w9 ⟨rfl, x9⟩
      have X9 := Lib.hid (X8.out.trans x9 (fun _ h => h.elim))
      clear x9
      refine hK _ _ (fun _ => HS.out _ X9.out) ?_
      clear hK K
      try simp only [Act.put, List.setIfInBounds_toArray, List.set_cons_zero, List.set_cons_succ]
      iterate 1
        refine' lex_freeG (v := _) rfl rfl rfl ?_ (fun _ _ _ h => h) ?_
        rotate_left
        · rintro W ⟨hW1, hW2, hW3, hW4, hW5, hW6⟩
          go_simp
          with_reducible rfl
        try simp only [Act.put, List.setIfInBounds_toArray, List.set_cons_zero, List.set_cons_succ]
      iterate 1
        refine' lex_free (v := _) rfl rfl rfl ?_ (fun _ _ _ h => h) ?_
        rotate_left
        · rintro W ⟨hW1, hW2, hW3, hW4, hW5, hW6⟩
          go_simp
          with_reducible rfl
        try simp only [Act.put, List.setIfInBounds_toArray, List.set_cons_zero, List.set_cons_succ]
      refine lex_nil ?_
      go_wp2
      go_roundw
      case rel => exact ⟨k + 1, by omega, by go_num, Lib.hid (HX.out.trans (X4.out.trans X9.out (fun _ h => h.elim)) (fun _ h => h.elim))⟩
      case measure => simp [intOf]; omega
    · have htb := table_any rc F D ⟨#[]⟩ wr (HC.out.quiet HW.out)
      rw [HLC.out, HLN.out, HLF.out, HE1.out] at htb
      go_wp2_with fail
      refine htb.mono ?_
      rintro e w3 ⟨_, rfl, ⟨a5, k5, rfl, hp5⟩, x3⟩
      have X3 := Lib.hid (HW.out.trans x3 (fun _ h => h.elim))
      clear hp5 x3 htb
      have hix := fun (v : Value) => indexes_any rc F D ⟨#[63]⟩ (w3.alloc (.cells #[.string (nameAt C.T ⟨#[]⟩), v] 27)) (HC.out.quiet (X3.out.alloc _))
      rw [HLI.out, HE2.out] at hix
      go_wp2_with fail
      refine (hix _).mono ?_
      rintro e w4 ⟨_, rfl, ⟨a6, k6, rfl, _⟩, x4⟩
      have X4 := Lib.hid ((X3.out.alloc _).trans x4 (fun _ h => h.elim))
      clear x4 hix
      go_wp2
      go_ret
      exact ⟨rfl, X4.out⟩
theorem alike_any (rc : Nat) (F : Nat → Prop) (C : Cat) (lo rr : Nat) (K : Nat → Prop) (vt vi : Value) (w : World) (hc : CatAt w rc F C) (hr : RAt w lo rr K vt vi C) :
    Calls Try.prog 17 #[.pointer (some ⟨rc, 0, none⟩), .pointer (some ⟨rr, 0, none⟩)] w fun e w' => e = .returned (.bool true) ∧ Chg (fun _ => False) w w' := alike_like rc F C C lo rr K vt vi w hc hr (Like.refl C)
end Go.Proofs.Ytpiijcjbphpffaa
