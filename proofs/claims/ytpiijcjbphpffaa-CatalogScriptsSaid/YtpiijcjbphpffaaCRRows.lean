/-
  What the document's Rows does. No condition beyond each lemma's own.
-/
import Derived.Test.YtpiijcjbphpffaaCRTabs
import Derived.Test.YtpiijcjbphpffaaCRIs
import Derived.Test.YtpiijcjbphpffaaCRows
set_option autoImplicit false
namespace Go.Proofs.Ytpiijcjbphpffaa
open Go Go.RowKit
attribute [local go_sem] field_tab0 field_tab1

theorem rflag_at (b : Bool) (w : World) : Calls Try.prog 46 #[.bool b] w fun e w' => e = .returned (.agg #[.int .i64 2, .int .i64 (if b then 1 else 0), .string ⟨#[]⟩]) ∧ Chg (fun _ => False) w w' := rflag_any b w
set_option maxRecDepth 100000 in
set_option maxHeartbeats 2000000 in
theorem rrows_any (lo r : Nat) (K : Nat → Prop) (vt vi : Value) (C : Cat) (w : World) (h : RAt w lo r K vt vi C) :
    Calls Try.prog 20 #[.pointer (some ⟨r, 0, none⟩)] w fun e w' => ∃ v, e = .returned v ∧ RowsAt w' (fun k => w.heap.size ≤ k) v C.rows ∧ Chg (fun _ => False) w w' := by
  have HH := Lib.hid h
  have hok := h.ok
  have h16 : C.tables.length ≤ 16 := by
    have := hok.t16
    unfold Cat.tables
    rw [(byNameT_perm _).length_eq]; exact this
  have HTF := Lib.hid (fun k t (ht : C.tables[k]? = some t) => ((mayB_len (hok.tm t ((byNameT_perm C.T).mem_iff.1 (List.mem_of_getElem? ht)))).2.1 : t.cols.length ≤ 16))
  have HMD := Lib.hid (fun n => hok.made_len n)
  have HR := Lib.hid (show C.rows = C.tables.map tabRow ++ C.tables.flatMap fun t => (C.made t.name).map ixRow from rfl)
  clear h hok
  generalize hts : C.tables = ts at *
  have HTS := Lib.hid hts
  clear hts
  go_enter Try.func20, Try.ntmps20
  go_wp2_with fail
  refine (rtables_any lo r K vt vi C w HH.out).mono ?_
  rw [HTS.out]
  rintro e w2 ⟨_, rfl, ⟨us0, he0, ao, cap, rfl, hp0⟩, x2⟩
  have HT := Lib.hid (show TabsAt w2 _ (.slice ao ts.length cap) ts from ⟨us0, he0, ao, cap, rfl, hp0⟩)
  have X2 := Lib.hid x2
  clear he0 hp0 x2
  go_wp2
  go_loopw [3, 5] (fun s i wr => ∃ k : Nat, k ≤ ts.length ∧ i = .int .i64 k ∧ Hid (Rws wr w2.heap.size s ((ts.take k).map tabRow)) ∧ Hid (Chg (fun _ => False) w2 wr)) (fun _ i _ => ts.length - (intOf i).toNat)
  case atStart => exact ⟨0, Nat.zero_le _, rfl, Lib.hid (Rws.nil _ _), Lib.hid (Chg.refl _ _)⟩
  case round =>
    obtain ⟨k, hk, rfl, HW, HX⟩ := hrel
    obtain ⟨wo, rfl⟩ : ∃ wo : World, wo = wr := ⟨_, rfl⟩
    have hln : ((ts.take k).map tabRow).length = k := by rw [List.length_map, List.length_take, Nat.min_eq_left hk]
    have HLN := Lib.hid hln
    obtain ⟨ao1, cap1, rfl⟩ := HW.out.form hln
    clear hln
    by_cases hlt : k < ts.length
    · obtain ⟨t, ht⟩ : ∃ t, ts[k]? = some t := ⟨_, List.getElem?_eq_getElem hlt⟩
      obtain ⟨b, o, a1, k1, rfl, hbl, _, q0, q1, hcs⟩ := TabsAt.tab (TabsAt.quiet HT.out HX.out) ht
      have htc := HTF.out k t ht
      have HC := Lib.hid hcs; have HTK := Lib.hid ht
      have hwr : w2.heap.size ≤ wo.heap.size := HX.out.size
      have Q1 := Lib.hid q1
      have hS : ∀ W, Chg (fun _ => False) wo W → W.cell? ⟨b, o + k * 2, none⟩ = some (.string t.name) := fun W hW => (cell_of_heap (hW.keep b hbl (fun h => h))).trans q0
      have HS := Lib.hid hS
      clear hcs ht hS q0 q1
      go_wp2
      refine wp_region_lex (fun w' => w'.cell? ⟨b, o + k * 2, none⟩ = some (.string t.name)) 8 [0, 7, 8] [1, 2, 3, 4, 5, 6, 0, 7, 8] (by kernel_rfl) (by kernel_rfl) (HS.out _ (Chg.refl _ _).drew) ?_
      iterate 6
        refine' lex_free (v := _) rfl rfl rfl ?_ (fun _ _ _ h => h) ?_
        rotate_left
        · rintro W hW1
          go_simp
          with_reducible rfl
        try simp only [Act.put, List.setIfInBounds_toArray, List.set_cons_zero, List.set_cons_succ]
      refine lex_op rfl rfl rfl (fun K hK => ?_)
      go_simp
      refine (rflag_at true wo.drew).mono ?_
      rintro e w5 ⟨rfl, x5⟩
      have X5 := Lib.hid ((Chg.refl (fun _ => False) wo).drew.trans x5 (fun _ h => h.elim))
      clear x5
      refine hK _ _ (fun _ => HS.out _ X5.out) ?_
      clear hK K
      try simp only [Act.put, List.setIfInBounds_toArray, List.set_cons_zero, List.set_cons_succ]
      refine lex_op rfl rfl rfl (fun K hK => ?_)
      go_simp
      refine hK _ _ (fun _ => HS.out _ (X5.out.alloc _)) ?_
      clear hK K
      try simp only [Act.put, List.setIfInBounds_toArray, List.set_cons_zero, List.set_cons_succ]
      refine lex_op rfl rfl rfl (fun K hK => ?_)
      go_simp
      refine hK _ _ (fun h => absurd rfl h) ?_
      clear hK K
      try simp only [Act.put, List.setIfInBounds_toArray, List.set_cons_zero, List.set_cons_succ]
      refine lex_nil ?_
      obtain ⟨W7, hW7⟩ : ∃ W7, W7 = w5.alloc (.cells #[.int .i64 2, .int .i64 1, .string ⟨#[]⟩, .int .i64 3, .int .i64 0, .string t.name] 62) := ⟨_, rfl⟩
      rw [← hW7]
      have x7 : Chg (fun _ => False) wo W7 := by subst hW7; exact X5.out.alloc _
      have o7 : Own 62 3 W7 wo.heap.size (.slice (some ⟨w5.heap.size, 0, none⟩) 2 2) 2 (valCells [truthV true, textV t.name]) := by
        subst hW7
        exact own_new w5 wo.heap.size _ rfl (by omega) X5.out.size
      have X7 := Lib.hid x7; have O7 := Lib.hid o7
      clear x7 o7 hW7
      go_wp2
      go_loopw [6, 7] (fun s i wr => ∃ j : Nat, j ≤ t.cols.length ∧ i = .int .i64 j ∧ Hid (Own 62 3 wr wo.heap.size s (2 + 4 * j) (valCells ([truthV true, textV t.name] ++ (t.cols.take j).flatMap colVals))) ∧ Hid (Chg (fun _ => False) wo wr)) (fun _ i _ => t.cols.length - (intOf i).toNat)
      case atStart => exact ⟨0, Nat.zero_le _, rfl, Lib.hid (by simpa using O7.out), X7⟩
      case round =>
        obtain ⟨j, hj, rfl, HQ, HXQ⟩ := hrel
        obtain ⟨aq, cq, rfl, haq⟩ := HQ.out.form
        clear haq
        have q1 := (cell_of_heap (HXQ.out.keep b hbl (fun h => h))).trans Q1.out
        by_cases hjt : j < t.cols.length
        · obtain ⟨x, hx⟩ : ∃ x, t.cols[j]? = some x := ⟨_, List.getElem?_eq_getElem hjt⟩
          obtain ⟨b2, o2, rfl, hb2, _, p0, p1, p2, p3⟩ := ColsAt.col (w := wr) rfl (RowAt.quiet HC.out HXQ.out) hx
          have HXJ := Lib.hid hx
          have hw4 : wo.heap.size ≤ wr.heap.size := HXQ.out.size
          clear hx
          go_wp2
          obtain ⟨W8, hW8⟩ : ∃ W8, W8 = wr.alloc (.cells #[.string x.name, .int .i64 x.ty, .bool x.nn, .bool x.un] 30) := ⟨_, rfl⟩
          rw [← hW8]
          have B8 : Hid (W8.heap[wr.heap.size]? = some (.cells #[.string x.name, .int .i64 x.ty, .bool x.nn, .bool x.un] 30 (0, 0))) := Lib.hid (by subst hW8; exact hal_new)
          have X8 : Hid (Chg (fun _ => False) wr W8) := Lib.hid (by subst hW8; exact (Chg.refl _ _).alloc _)
          clear hW8 p0 p1 p2 p3
          have hS : ∀ W, Chg (fun _ => False) W8 W → W.cell? ⟨wr.heap.size, 0, none⟩ = some (.string x.name) ∧ W.cell? ⟨wr.heap.size, 1, none⟩ = some (.int .i64 x.ty) ∧ W.cell? ⟨wr.heap.size, 2, none⟩ = some (.bool x.nn) ∧ W.cell? ⟨wr.heap.size, 3, none⟩ = some (.bool x.un) := fun W hW => by
            have a := hW.heap B8.out (fun h => h)
            exact ⟨cell_of_row W _ 0 _ _ _ a, cell_of_row W _ 1 _ _ _ a, cell_of_row W _ 2 _ _ _ a, cell_of_row W _ 3 _ _ _ a⟩
          have HS8 := Lib.hid hS
          clear hS
          refine wp_region_lex (fun w' => w'.cell? ⟨wr.heap.size, 0, none⟩ = some (.string x.name) ∧ w'.cell? ⟨wr.heap.size, 1, none⟩ = some (.int .i64 x.ty) ∧ w'.cell? ⟨wr.heap.size, 2, none⟩ = some (.bool x.nn) ∧ w'.cell? ⟨wr.heap.size, 3, none⟩ = some (.bool x.un)) 15 [9, 12, 13, 14, 15] [0, 1, 2, 3, 4, 5, 6, 7, 8, 10, 11, 9, 12, 13, 14, 15] (by kernel_rfl) (by kernel_rfl) (HS8.out _ (Chg.refl _ _).drew) ?_
          iterate 11
            refine' lex_free (v := _) rfl rfl rfl ?_ (fun _ _ _ h => h) ?_
            rotate_left
            · rintro W ⟨hW1, hW2, hW3, hW4⟩
              go_simp
              with_reducible rfl
            try simp only [Act.put, List.setIfInBounds_toArray, List.set_cons_zero, List.set_cons_succ]
          refine lex_op rfl rfl rfl (fun K hK => ?_)
          go_simp
          refine (rflag_at x.nn W8.drew).mono ?_
          rintro e y3 ⟨rfl, x⟩
          have Y3 := Lib.hid ((Chg.refl (fun _ => False) W8).drew.trans x (fun _ h => h.elim))
          clear x
          refine hK _ _ (fun _ => HS8.out _ Y3.out) ?_
          clear hK K
          try simp only [Act.put, List.setIfInBounds_toArray, List.set_cons_zero, List.set_cons_succ]
          refine lex_op rfl rfl rfl (fun K hK => ?_)
          go_simp
          refine (rflag_at x.un y3).mono ?_
          rintro e y4 ⟨rfl, x⟩
          have Y4 := Lib.hid (Y3.out.trans x (fun _ h => h.elim))
          clear x
          refine hK _ _ (fun _ => HS8.out _ Y4.out) ?_
          clear hK K
          try simp only [Act.put, List.setIfInBounds_toArray, List.set_cons_zero, List.set_cons_succ]
          refine lex_op rfl rfl rfl (fun K hK => ?_)
          go_simp
          have hy4 : wo.heap.size ≤ y4.heap.size := Nat.le_trans hw4 (Nat.le_trans X8.out.size Y4.out.size)
          have HQ4 := Lib.hid (HQ.out.quiet ((X8.out.trans Y4.out (fun _ h => h.elim)).alloc (.cells (valCells (colVals x)).toArray 62)))
          refine hK _ _ (fun _ => HS8.out _ (Y4.out.alloc _)) ?_
          clear hK K
          try simp only [Act.put, List.setIfInBounds_toArray, List.set_cons_zero, List.set_cons_succ]
          refine lex_op rfl rfl rfl (fun K hK => ?_)
          refine own_wp val_ok _ _ rfl wo.heap.size _ (2 + 4 * j) _ rfl HQ4.out (fun _ => True) (.slice (some ⟨y4.heap.size, 0, none⟩) 4 4) 4 (valCells (colVals x)) rfl ⟨_, _, rfl, fun _ => ⟨y4.heap.size, 0, rfl, by simp, trivial, range_block hal_new⟩⟩ rfl (valCells_one _) (by unfold maxLen; omega) (by omega) (by simp; omega) ?_
          intro v9 w9 o9 c9 hat9
          obtain ⟨a9, k9, rfl, _⟩ := o9.form
          have hne : ¬ (Value.slice aq (2 + 4 * j) cq).ownBlock = some wr.heap.size := fun h => by have := HQ.out.lt h; omega
          have a := c9.heap ((Y4.out.alloc (.cells (valCells (colVals x)).toArray 62)).heap B8.out (fun h => h)) hne
          have C9 := Lib.hid (((HXQ.out.trans (X8.out.trans (Y4.out.alloc (.cells (valCells (colVals x)).toArray 62)) (fun _ h => h.elim)) (fun _ h => h.elim)).mono (G := fun k => wo.heap.size ≤ k) (fun _ h => h.elim)).trans c9 (fun k h => .inl (HQ.out.lo k h)) |>.mono (G := fun _ => False) (fun k hk => .inr hk))
          have O9 : Hid (Own 62 3 w9 wo.heap.size (.slice a9 (2 + 4 * j + 4) k9) (2 + 4 * (j + 1)) (valCells ([truthV true, textV t.name] ++ (t.cols.take (j + 1)).flatMap colVals))) := Lib.hid (by
            rw [List.take_add_one, HXJ.out, Option.toList_some, List.flatMap_append, ← List.append_assoc, valCells_app, show 2 + 4 * (j + 1) = 2 + 4 * j + 4 by omega]
            simpa using o9)
          refine hK _ _ (fun _ => ⟨cell_of_row w9 _ 0 _ _ _ a, cell_of_row w9 _ 1 _ _ _ a, cell_of_row w9 _ 2 _ _ _ a, cell_of_row w9 _ 3 _ _ _ a⟩) ?_
          clear hK K
          try simp only [Act.put, List.setIfInBounds_toArray, List.set_cons_zero, List.set_cons_succ]
          clear a o9 c9 hat9 hne
          refine lex_op rfl rfl rfl (fun K hK => ?_)
          go_simp
          refine hK _ _ (fun h => absurd rfl h) ?_
          clear hK K
          try simp only [Act.put, List.setIfInBounds_toArray, List.set_cons_zero, List.set_cons_succ]
          refine lex_nil ?_
          go_wp2
          go_roundw
          case rel => exact ⟨j + 1, by omega, by go_num, O9, C9⟩
          case measure => simp [intOf]; omega
        · have HJ := Lib.hid (show j = t.cols.length by omega)
          have hw4 : wo.heap.size ≤ wr.heap.size := HXQ.out.size
          go_wp2_with (at_builtin; refine rws_app rfl _ _ rfl w2.heap.size _ ((ts.take k).map tabRow) k HLN.out rfl (Rws.quiet HW.out (HXQ.out.alloc _)) _ (.slice aq (2 + 4 * j) cq) (tabRow t) rfl hal_new ?_ HQ.out.capOk ?_ ?_ ?_)
          · have hr := (HQ.out.read.quiet ((Chg.refl (fun _ => False) wr).alloc (.cells #[.slice aq (2 + 4 * j) cq] 53))).mono (G := fun g => w2.heap.size ≤ g ∧ (Value.slice ao1 k cap1).ownBlock ≠ some g) (fun g hg _ => ⟨by omega, fun h => by have := HW.out.own h; omega⟩)
            have e1 : 2 + 4 * j = (tabRow t).length := by
              unfold tabRow
              rw [List.length_append, flatMap_len colVals 4 _ (fun _ _ => rfl), ← HJ.out]
              simp; omega
            have e2 : [truthV true, textV t.name] ++ (t.cols.take j).flatMap colVals = tabRow t := by unfold tabRow; rw [HJ.out, List.take_length]
            rw [e2] at hr
            unfold ValsAt
            rw [← e1]
            exact hr
          · omega
          · simp; omega
          · intro ao5 c5 w5 r5 x5 _
            have HW5 : Hid (Rws w5 w2.heap.size (.slice ao5 (k + 1) c5) ((ts.take (k + 1)).map tabRow)) := Lib.hid (by
              rw [List.take_add_one, HTK.out, Option.toList_some, List.map_append, List.map_take]
              exact r5)
            have HX5 := Lib.hid ((((HX.out.trans HXQ.out (fun _ h => h.elim)).alloc (.cells #[.slice aq (2 + 4 * j) cq] 53)).mono (G := fun k => w2.heap.size ≤ k) (fun _ h => h.elim)).trans x5 (fun g h => .inl (HW.out.own h).1) |>.mono (G := fun _ => False) (fun k hk => .inr hk))
            clear r5 x5
            go_wp2
            go_roundw
            case rel => exact ⟨k + 1, by omega, by go_num, HW5, HX5⟩
            case measure => simp [intOf]; omega
    · have HK := Lib.hid (show k = ts.length by omega)
      have HW3 : Hid (Rws wo w2.heap.size (.slice ao1 k cap1) (ts.map tabRow)) := Lib.hid (by
        have := HW.out
        rw [HK.out, List.take_length] at this
        rw [HK.out]
        exact this)
      have HT3 := Lib.hid (TabsAt.mono (G := fun g => g < wo.heap.size) (TabsAt.quiet HT.out HX.out) (fun g _ hg => hg))
      obtain ⟨w3, hw3⟩ : ∃ w3, w3 = wo := ⟨_, rfl⟩
      subst hw3
      have HT4 := Lib.hid (TabsAt.mono (G := fun g => ¬ (Value.slice ao1 k cap1).ownBlock = some g) (TabsAt.quiet (TabsAt.mono (G := fun g => g < w2.heap.size) HT.out (fun g _ hg => hg)) HX.out) (fun g hg _ h => by have := HW.out.own h; omega))
      go_wp2
      go_loopw [3, 9] (fun s i wr => ∃ (j n : Nat), j ≤ ts.length ∧ i = .int .i64 j ∧ n ≤ 16 + 16 * j ∧ Hid (Rws wr w2.heap.size s (ts.map tabRow ++ (ts.take j).flatMap fun t => (C.made t.name).map ixRow)) ∧ Hid ((ts.map tabRow ++ (ts.take j).flatMap fun t => (C.made t.name).map ixRow).length = n) ∧ Hid (Chg (fun g => (Value.slice ao1 k cap1).ownBlock = some g) w3 wr) ∧ Hid (∀ g, s.ownBlock = some g → (Value.slice ao1 k cap1).ownBlock = some g ∨ w3.heap.size ≤ g)) (fun _ i _ => ts.length - (intOf i).toNat)
      case atStart => exact ⟨0, ts.length, Nat.zero_le _, rfl, by omega, Lib.hid (by simpa using HW3.out), Lib.hid (by simp), Lib.hid (Chg.refl _ _), Lib.hid (fun g hg => .inl hg)⟩
      case round =>
        obtain ⟨j, n, hj, rfl, hn, HQ, HLQ, HXQ, HOQ⟩ := hrel
        obtain ⟨wi, rfl⟩ : ∃ wo : World, wo = wr := ⟨_, rfl⟩
        obtain ⟨aq, cq, rfl⟩ := HQ.out.form HLQ.out
        by_cases hjt : j < ts.length
        · obtain ⟨t, ht⟩ : ∃ t, ts[j]? = some t := ⟨_, List.getElem?_eq_getElem hjt⟩
          obtain ⟨b, o, a1, k1, rfl, hbl, _, q0, q1, _⟩ := TabsAt.tab (TabsAt.chg HT4.out HXQ.out (fun _ h => h)) ht
          have HTJ := Lib.hid ht
          have hml := HMD.out t.name
          clear ht
          go_wp2_with fail
          refine (rmade_any lo r K vt vi C t.name _ (RAt.chg (HH.out.quiet (X2.out.trans HX.out (fun _ h => h.elim))) HXQ.out (fun g hg h => by have := (HW.out.own h).1; have := X2.out.size; have := (HH.out.rf g hg).2; omega) (fun g hg h => by have := (HW.out.own h).1; have := X2.out.size; have := HH.out.k_lt g hg; omega))).mono ?_
          rintro e w5 ⟨_, rfl, ⟨a5, k5, rfl, p5⟩, x5⟩
          have HM5 := Lib.hid (RowAt.mono (G := fun g => wi.heap.size ≤ g ∧ g < w5.heap.size) (show IxsAt w5 _ (.slice a5 (C.made t.name).length k5) (C.made t.name) from ⟨a5, k5, rfl, p5⟩) (fun g hg hl => ⟨hg, hl⟩))
          have X5 := Lib.hid x5
          clear p5 x5 q0 q1
          generalize hmd : C.made t.name = ms at *
          have HMS := Lib.hid hmd
          clear hmd
          have hi5 : wi.heap.size ≤ w5.heap.size := X5.out.size
          go_wp2
          go_loopw [3, 11] (fun s i wr => ∃ l : Nat, l ≤ ms.length ∧ i = .int .i64 l ∧ Hid (Rws wr w2.heap.size s ((ts.map tabRow ++ (ts.take j).flatMap fun t => (C.made t.name).map ixRow) ++ (ms.take l).map ixRow)) ∧ Hid (Chg (fun g => (Value.slice aq n cq).ownBlock = some g) w5 wr) ∧ Hid (∀ g, s.ownBlock = some g → (Value.slice aq n cq).ownBlock = some g ∨ w5.heap.size ≤ g)) (fun _ i _ => ms.length - (intOf i).toNat)
          case atStart => exact ⟨0, Nat.zero_le _, rfl, Lib.hid (by simpa using HQ.out.quiet X5.out), Lib.hid (Chg.refl _ _), Lib.hid (fun g hg => .inl hg)⟩
          case round =>
            obtain ⟨l, hl, rfl, HV, HXV, HOV⟩ := hrel
            have hlen : ((ts.map tabRow ++ (ts.take j).flatMap fun t => (C.made t.name).map ixRow) ++ (ms.take l).map ixRow).length = n + l := by
              rw [List.length_append, HLQ.out, List.length_map, List.length_take, Nat.min_eq_left hl]
            have HLV := Lib.hid hlen
            obtain ⟨av, cv, rfl⟩ := HV.out.form hlen
            clear hlen
            by_cases hlm : l < ms.length
            · obtain ⟨x, hx⟩ : ∃ x, ms[l]? = some x := ⟨_, List.getElem?_eq_getElem hlm⟩
              obtain ⟨b2, o2, rfl, hb2, ⟨hb3, hb4⟩, p0, p1, p2, p3⟩ := IxsAt.ix (w := wr) rfl (RowAt.chg HM5.out HXV.out (fun g hg h => by have := HQ.out.own h; omega)) hx
              have HXL := Lib.hid hx
              have hwr : w5.heap.size ≤ wr.heap.size := HXV.out.size
              have hS : ∀ W, Chg (fun _ => False) wr W → W.cell? ⟨b2, o2 + l * 4, none⟩ = some (.string x.name) ∧ W.cell? ⟨b2, o2 + l * 4 + 1, none⟩ = some (.string x.tab) ∧ W.cell? ⟨b2, o2 + l * 4 + 2, none⟩ = some (.int .i64 x.col) ∧ W.cell? ⟨b2, o2 + l * 4 + 3, none⟩ = some (.bool x.hash) := fun W hW => by
                have a := hW.keep b2 hb2 (fun h => h)
                exact ⟨(cell_of_heap a).trans p0, (cell_of_heap a).trans p1, (cell_of_heap a).trans p2, (cell_of_heap a).trans p3⟩
              have HS8 := Lib.hid hS
              clear hx hS p0 p1 p2 p3
              go_wp2
              refine wp_region_lex (fun w' => w'.cell? ⟨b2, o2 + l * 4, none⟩ = some (.string x.name) ∧ w'.cell? ⟨b2, o2 + l * 4 + 1, none⟩ = some (.string x.tab) ∧ w'.cell? ⟨b2, o2 + l * 4 + 2, none⟩ = some (.int .i64 x.col) ∧ w'.cell? ⟨b2, o2 + l * 4 + 3, none⟩ = some (.bool x.hash)) 29 [1, 25, 26, 27, 28, 29] [0, 2, 3, 4, 5, 6, 7, 8, 9, 10, 11, 12, 13, 14, 15, 16, 17, 18, 19, 20, 21, 22, 23, 24, 1, 25, 26, 27, 28, 29] (by kernel_rfl) (by kernel_rfl) (HS8.out _ (Chg.refl _ _).drew) ?_
              iterate 24
                refine' lex_free (v := _) rfl rfl rfl ?_ (fun _ _ _ h => h) ?_
                rotate_left
                · rintro W ⟨hW1, hW2, hW3, hW4⟩
                  go_simp
                  with_reducible rfl
                try simp only [Act.put, List.setIfInBounds_toArray, List.set_cons_zero, List.set_cons_succ]
              refine lex_op rfl rfl rfl (fun K hK => ?_)
              go_simp
              refine (rflag_at false wr.drew).mono ?_
              rintro e y0 ⟨rfl, x⟩
              have Y0 := Lib.hid ((Chg.refl (fun _ => False) wr).drew.trans x (fun _ h => h.elim))
              clear x
              refine hK _ _ (fun _ => HS8.out _ Y0.out) ?_
              clear hK K
              try simp only [Act.put, List.setIfInBounds_toArray, List.set_cons_zero, List.set_cons_succ]
              refine lex_op rfl rfl rfl (fun K hK => ?_)
              go_simp
              refine (rflag_at x.hash y0).mono ?_
              rintro e y4 ⟨rfl, x⟩
              have Y4 := Lib.hid (Y0.out.trans x (fun _ h => h.elim))
              clear x
              refine hK _ _ (fun _ => HS8.out _ Y4.out) ?_
              clear hK K
              try simp only [Act.put, List.setIfInBounds_toArray, List.set_cons_zero, List.set_cons_succ]
              refine lex_op rfl rfl rfl (fun K hK => ?_)
              go_simp
              refine hK _ _ (fun _ => HS8.out _ (Y4.out.alloc _)) ?_
              clear hK K
              try simp only [Act.put, List.setIfInBounds_toArray, List.set_cons_zero, List.set_cons_succ]
              refine lex_op rfl rfl rfl (fun K hK => ?_)
              go_simp
              refine hK _ _ (fun _ => HS8.out _ ((Y4.out.alloc _).alloc _)) ?_
              clear hK K
              try simp only [Act.put, List.setIfInBounds_toArray, List.set_cons_zero, List.set_cons_succ]
              have hy4 : wr.heap.size ≤ y4.heap.size := Y4.out.size
              have hww : w2.heap.size ≤ wr.heap.size := Nat.le_trans HX.out.size (Nat.le_trans HXQ.out.size (Nat.le_trans X5.out.size HXV.out.size))
              have hov := fun g (hg : (Value.slice av (n + l) cv).ownBlock = some g) => HV.out.own hg
              have hR : Rws ((y4.alloc (.cells (valCells (ixRow x)).toArray 62)).alloc (.cells #[.slice (some ⟨y4.heap.size, 0, none⟩) 5 5] 53)) w2.heap.size (.slice av (n + l) cv) _ := HV.out.quiet (Y4.out.alloc _ |>.alloc _)
              refine lex_op rfl rfl rfl (fun K hK => ?_)
              refine rws_wp _ _ rfl w2.heap.size _ _ (n + l) HLV.out rfl hR (y4.heap.size + 1) (.slice (some ⟨y4.heap.size, 0, none⟩) 5 5) (ixRow x) rfl (hal_new' (by simp)) ⟨_, 5, rfl, fun _ => ⟨y4.heap.size, 0, rfl, by simp; omega, ⟨by omega, fun h => by have := hov _ h; omega⟩, range_block (by rw [hal_old (by simp)]; exact hal_new)⟩⟩ (capOk_lit _ _ _ (Nat.le_refl _)) (by omega) (by simp; omega) ?_
              intro ao9 c9 w9 r9 x9 hat
              have a := x9.keep b2 (by simp; omega) (fun h => by
                rcases HOV.out _ h with h | h
                · have := HQ.out.own h; omega
                · omega)
              have a2 := HS8.out _ ((Y4.out.alloc (.cells (valCells (ixRow x)).toArray 62)).alloc (.cells #[.slice (some ⟨y4.heap.size, 0, none⟩) 5 5] 53))
              have HX9 := Lib.hid ((Y4.out.alloc (.cells (valCells (ixRow x)).toArray 62)).alloc (.cells #[.slice (some ⟨y4.heap.size, 0, none⟩) 5 5] 53))
              have HXV9 := Lib.hid ((HXV.out.trans HX9.out (fun _ h => h.elim)).trans x9 (fun g h => by
                rcases HOV.out g h with h | h
                · exact .inl h
                · exact .inr h))
              have HOV9 := Lib.hid (fun g (hg : (Value.slice ao9 (n + l + 1) c9).ownBlock = some g) => (by
                rcases hat g hg with h | h
                · exact HOV.out g h
                · right
                  simp at h
                  omega : (Value.slice aq n cq).ownBlock = some g ∨ w5.heap.size ≤ g))
              have HR9 : Hid (Rws w9 w2.heap.size (.slice ao9 (n + l + 1) c9) ((ts.map tabRow ++ (ts.take j).flatMap fun t => (C.made t.name).map ixRow) ++ (ms.take (l + 1)).map ixRow)) := Lib.hid (by
                rw [List.take_add_one, HXL.out, Option.toList_some, List.map_append, ← List.append_assoc]
                exact r9)
              refine hK _ _ (fun _ => ⟨(cell_of_heap a).trans a2.1, (cell_of_heap a).trans a2.2.1, (cell_of_heap a).trans a2.2.2.1, (cell_of_heap a).trans a2.2.2.2⟩) ?_
              clear hK K
              try simp only [Act.put, List.setIfInBounds_toArray, List.set_cons_zero, List.set_cons_succ]
              clear a a2 r9 x9 hat hR hov
              refine lex_op rfl rfl rfl (fun K hK => ?_)
              go_simp
              refine hK _ _ (fun h => absurd rfl h) ?_
              clear hK K
              try simp only [Act.put, List.setIfInBounds_toArray, List.set_cons_zero, List.set_cons_succ]
              refine lex_nil ?_
              go_wp2
              go_roundw
              case rel => exact ⟨l + 1, by omega, by go_num, HR9, HXV9, HOV9⟩
              case measure => simp [intOf]; omega
            · have HL := Lib.hid (show l = ms.length by omega)
              have hsz : w3.heap.size ≤ w5.heap.size := Nat.le_trans HXQ.out.size hi5
              go_wp2
              go_roundw
              case rel =>
                refine ⟨j + 1, n + l, by omega, by go_num, by omega, Lib.hid ?_, Lib.hid ?_, Lib.hid ?_, Lib.hid ?_⟩
                · have := HV.out
                  rw [HL.out, List.take_length, ← HMS.out] at this
                  rw [List.take_add_one, HTJ.out, Option.toList_some, List.flatMap_append, ← List.append_assoc, HL.out, ← HMS.out]
                  simpa using this
                · have := HLV.out
                  rw [HL.out, List.take_length, ← HMS.out] at this
                  rw [List.take_add_one, HTJ.out, Option.toList_some, List.flatMap_append, ← List.append_assoc, HL.out, ← HMS.out]
                  simpa using this
                · refine (HXQ.out.trans X5.out (fun _ h => h.elim)).trans HXV.out (fun g h => ?_)
                  exact HOQ.out g h
                · intro g hg
                  rcases HOV.out g hg with h | h
                  · exact HOQ.out g h
                  · exact .inr (by omega)
              case measure => simp [intOf]; omega
        · have HJ := Lib.hid (show j = ts.length by omega)
          go_wp2
          go_ret
          have hq := HQ.out.read
          rw [HJ.out, List.take_length] at hq
          rw [HR.out]
          exact ⟨_, rfl, hq.mono (fun k hk _ => by have := X2.out.size; omega), (((X2.out.trans HX.out (fun _ h => h.elim)).mono (G := fun k => w2.heap.size ≤ k) (fun _ h => h.elim)).trans HXQ.out (fun g h => .inl (HW.out.own h).1)).mono (fun k hk => .inr (by have := X2.out.size; omega))⟩
end Go.Proofs.Ytpiijcjbphpffaa
