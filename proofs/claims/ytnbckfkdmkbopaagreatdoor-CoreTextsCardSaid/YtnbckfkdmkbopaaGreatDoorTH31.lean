/-
  The scanner's texts. No condition beyond each lemma's own.
-/
import Derived.Test.YtnbckfkdmkbopaaGreatDoorTH30
set_option autoImplicit false
namespace Go.Proofs.YtnbckfkdmkbopaaGreatDoor
open Go Go.RowKit

theorem hal_newL {w : World} {o : Obj} {n : Nat} (h : n = w.heap.size) : (w.alloc o).heap[n]? = some o := by subst h; exact hal_new
def byteVs (l : Str) : List Value := l.map fun b => .int .u8 (b.toNat : Int)
theorem byteVs_len (l : Str) : (byteVs l).length = l.length * 1 := by simp [byteVs]
/-- the text of a row of bytes that a call has made -/
theorem conv_back {w : World} {lo : Nat} {v : Value} {u : Str} (h : Own 5 1 w lo v u.length (byteVs u)) : (convert 157 9 v).run Tryz.prog w = .ok (sv u) w := by
  obtain ⟨ao, cap, rfl, hp⟩ := h.form
  by_cases h0 : 0 < u.length
  · obtain ⟨g, rfl, _⟩ := hp h0
    refine run_convert_bytes_back w 157 9 5 ⟨g, 0, none⟩ cap u Tryz.underlying157 Tryz.underlying5 Tryz.underlying9 (fun j hj => ?_)
    refine h.row.cells (g := g) rfl j _ ?_
    simp [byteVs, hj]
  · have hu : u = [] := List.eq_nil_of_length_eq_zero (by omega)
    subst hu
    rw [run_convert_bytes_string w 157 9 5 _ _ _ Tryz.underlying157 Tryz.underlying5 Tryz.underlying9]
    cases ao <;> simp [loadCells, loadCellsFrom, Conv.bytesToString] <;> rfl
theorem scan_set' {w : World} {c k : Nat} {l : Str} (h : ScanAt w c l k) (n : Nat) (m : Int) (hm : m = n) : ScanAt (w.setCell ⟨c, 1, none⟩ (.int .i64 m)) c l n := by subst hm; exact scan_set h n
theorem textL_other {l acc : Str} {j : Nat} {x : UInt8} (h : l[j]? = some x) (hx : (x == 39) = false) : textL (l.drop j) acc = textL (l.drop (j + 1)) (acc ++ [x]) := by
  obtain ⟨hj, rfl⟩ := List.getElem?_eq_some_iff.1 h
  rw [List.drop_eq_getElem_cons hj]
  conv => lhs; unfold textL
  rw [if_neg (by simp [hx])]
theorem textL_end {l acc : Str} {j : Nat} (h : l.length ≤ j) : textL (l.drop j) acc = none := by
  rw [List.drop_of_length_le h]; rfl
theorem textL_stop {l acc : Str} {j : Nat} (h : l[j]? = some 39) (h2 : l[j + 1]? ≠ some 39) : textL (l.drop j) acc = if acc.length ≤ 64 then some (acc, l.drop (j + 1)) else none := by
  obtain ⟨hj, hx⟩ := List.getElem?_eq_some_iff.1 h
  rw [List.drop_eq_getElem_cons hj, hx]
  unfold textL
  rw [if_pos (by rfl)]
  by_cases hn : j + 1 < l.length
  · rw [List.drop_eq_getElem_cons hn]
    have : (l[j + 1] == 39) = false := by
      simp only [beq_eq_false_iff_ne, ne_eq]
      intro e
      exact h2 (by rw [List.getElem?_eq_getElem hn, e])
    simp [this]
  · rw [List.drop_of_length_le (by omega)]
theorem textL_two {l acc : Str} {j : Nat} (h : l[j]? = some 39) (h2 : l[j + 1]? = some 39) : textL (l.drop j) acc = textL (l.drop (j + 1 + 1)) (acc ++ [39]) := by
  obtain ⟨hj, hx⟩ := List.getElem?_eq_some_iff.1 h
  obtain ⟨hj2, hx2⟩ := List.getElem?_eq_some_iff.1 h2
  rw [List.drop_eq_getElem_cons hj, hx, List.drop_eq_getElem_cons hj2, hx2]
  conv => lhs; unfold textL
  rfl
/-- the loop's invariant -/
structure TextInv (l : Str) (c k j : Nat) (acc : Str) (v : Value) (w wr : World) : Prop where
  le : j ≤ l.length
  acl : acc.length ≤ j
  is : textL (l.drop j) acc = textL (l.drop (k + 1)) []
  sc : ScanAt wr c l j
  own : Own 5 1 wr (w.heap.size + 1) v acc.length (byteVs acc)
  blk : wr.heap[w.heap.size]? = some (.cells #[.int .i64 0, .string ⟨#[]⟩, .int .i64 0] 133 (0, 0))
  chg : Chg (OneB c) w wr
theorem TextInv.drewN {l : Str} {c k j : Nat} {acc : Str} {v : Value} {w wr : World} (h : TextInv l c k j acc v w wr) (n : Nat) : TextInv l c k j acc v w (wr.drewN n) :=
  ⟨h.le, h.acl, h.is, h.sc, h.own.quiet ((Chg.refl _ _).drewN n), h.blk, h.chg.drewN n⟩
/-- the scanner moves on -/
theorem TextInv.at_ {l : Str} {c k j : Nat} {w : World} (hcw : c < w.heap.size) (n : Nat) (hn : n ≤ l.length) (acc' : Str) (v' : Value) (wr' : World)
    (ha : acc'.length ≤ n) (his : textL (l.drop n) acc' = textL (l.drop (k + 1)) []) (ho : Own 5 1 wr' (w.heap.size + 1) v' acc'.length (byteVs acc')) (hsc : ScanAt wr' c l j) (hb : wr'.heap[w.heap.size]? = some (.cells #[.int .i64 0, .string ⟨#[]⟩, .int .i64 0] 133 (0, 0))) (hx : Chg (OneB c) w wr') :
    TextInv l c k n acc' v' w (wr'.setCell ⟨c, 1, none⟩ (.int .i64 n)) := by
  refine ⟨hn, ha, his, scan_set hsc n, ho.chg ((Chg.refl (OneB c) _).setCell (.inl rfl) _) (fun g hg e => ?_), (hset_ne (by omega)).trans hb, hx.setCell (.inl rfl) _⟩
  have := ho.lo g hg
  unfold OneB at e
  omega
set_option maxRecDepth 100000 in
set_option maxHeartbeats 2000000 in
theorem text_any (l : Str) (c k : Nat) (w : World) (hk : k < l.length) (hl : l.length ≤ 2048) (hc : ScanAt w c l k) :
    Calls Tryz.prog 100 #[.pointer (some ⟨c, 0, none⟩)] w (TokOut (quoteL (l.drop (k + 1))) l c w) := by
  have hcl := lt_of_heap hc
  have HC := Lib.hid hc
  have d1 : w.cell? ⟨c, 1, none⟩ = some (.int .i64 k) := cell_of_row w c 1 _ _ _ hc
  have f1 : w.frozen? ⟨c, 1, none⟩ = false := by simp [World.frozen?, hc]
  have hcn : ¬ c = w.heap.size := by omega
  clear hc
  go_enter Tryz.func100, Tryz.ntmps100
  go_wp2
  clear d1 f1
  go_loopw [4] (fun v wr => ∃ (j : Nat) (acc : Str), j ≤ l.length ∧ acc.length ≤ j ∧ Hid (TextInv l c k j acc v w wr)) (fun _ wr => l.length - scPos wr c)
  case atStart =>
    refine ⟨k + 1, [], by omega, by simp, Lib.hid ⟨by omega, by simp, rfl, ?_, Own.nil _ _ _ _, ?_, ?_⟩⟩
    · have := scan_set HC.out (k + 1)
      rw [show ((k + 1 : Nat) : Int) = (k : Int) + 1 by omega] at this
      exact (hal_old (by simpa using hcl)).trans this
    · rw [hal_newL (by simp)]
    · exact ((Chg.refl (OneB c) w).setCell (p := ⟨c, 1, none⟩) (.inl rfl) _).alloc _
  case round =>
    obtain ⟨j, acc, hj, hacc, HI⟩ := hrel
    have c0 : wr.cell? ⟨c, 0, none⟩ = some (sv l) := cell_of_row wr c 0 _ _ _ HI.out.sc
    have c1 : wr.cell? ⟨c, 1, none⟩ = some (.int .i64 j) := cell_of_row wr c 1 _ _ _ HI.out.sc
    have f1 : wr.frozen? ⟨c, 1, none⟩ = false := by simp [World.frozen?, HI.out.sc]
    have b0 : wr.cell? ⟨w.heap.size, 0, none⟩ = some (.int .i64 0) := cell_of_row wr _ 0 _ _ _ HI.out.blk
    have b1 : wr.cell? ⟨w.heap.size, 1, none⟩ = some (.string ⟨#[]⟩) := cell_of_row wr _ 1 _ _ _ HI.out.blk
    have b2 : wr.cell? ⟨w.heap.size, 2, none⟩ = some (.int .i64 0) := cell_of_row wr _ 2 _ _ _ HI.out.blk
    have fz : ∀ o, wr.frozen? ⟨w.heap.size, o, none⟩ = false := fun o => by simp [World.frozen?, HI.out.blk]
    by_cases hlt : j < l.length
    · obtain ⟨x, hx⟩ : ∃ x, l[j]? = some x := ⟨_, List.getElem?_eq_getElem hlt⟩
      have hb := ba_get hx
      have HG := Lib.hid hx
      clear hx
      by_cases h39 : x = 39
      · obtain rfl := h39
        go_wp2
        go_quiet (fail)
        go_wp2
        go_quiet (fail)
        go_wp2
        generalize hW0 : World.setCell (wr.drewN _) _ _ = W0
        have S0 : Hid (ScanAt W0 c l (j + 1 : Nat)) := Lib.hid (by rw [← hW0]; exact scan_set' (HI.out.drewN _).sc (j + 1) ((j : Int) + 1) (by omega))
        have O0 : Hid (Own 5 1 W0 (w.heap.size + 1) u4 acc.length (byteVs acc)) := Lib.hid (by rw [← hW0]; exact (HI.out.drewN _).own.chg ((Chg.refl (OneB c) _).setCell (p := ⟨c, 1, none⟩) (.inl rfl) _) (fun g hg e => by have := HI.out.own.lo g hg; unfold OneB at e; omega))
        have K0 : Hid (W0.heap[w.heap.size]? = some (.cells #[.int .i64 0, .string ⟨#[]⟩, .int .i64 0] 133 (0, 0))) := Lib.hid (by rw [← hW0]; exact (hset_ne (by omega)).trans (HI.out.drewN _).blk)
        have X0 : Hid (Chg (OneB c) w W0) := Lib.hid (by rw [← hW0]; exact (HI.out.drewN _).chg.setCell (p := ⟨c, 1, none⟩) (.inl rfl) _)
        clear hW0 c0 c1 f1 b0 b1 b2 fz
        have c0 : W0.cell? ⟨c, 0, none⟩ = some (sv l) := cell_of_row W0 c 0 _ _ _ S0.out
        have c1 : W0.cell? ⟨c, 1, none⟩ = some (.int .i64 ((j : Int) + 1)) := by have := cell_of_row W0 c 1 _ _ _ S0.out; rw [this]; simp
        have b0 : W0.cell? ⟨w.heap.size, 0, none⟩ = some (.int .i64 0) := cell_of_row W0 _ 0 _ _ _ K0.out
        have b1 : W0.cell? ⟨w.heap.size, 1, none⟩ = some (.string ⟨#[]⟩) := cell_of_row W0 _ 1 _ _ _ K0.out
        have b2 : W0.cell? ⟨w.heap.size, 2, none⟩ = some (.int .i64 0) := cell_of_row W0 _ 2 _ _ _ K0.out
        have fz : ∀ o, W0.frozen? ⟨w.heap.size, o, none⟩ = false := fun o => by simp [World.frozen?, K0.out]
        obtain ⟨ao4, cap4, hu4, _⟩ := O0.out.form
        subst hu4
        by_cases hy39 : l[j + 1]? = some 39
        · have hj1 : j + 1 < l.length := (List.getElem?_eq_some_iff.1 hy39).1
          have hb := ba_get hy39
          have EQ : Hid (textL (l.drop (j + 1 + 1)) (acc ++ [39]) = textL (l.drop (k + 1)) []) := Lib.hid ((textL_two HG.out hy39).symm.trans HI.out.is)
          clear hy39
          have hne1 : (((j : Int) + 1) == (l.length : Int)) = false := by simp; omega
          go_quiet (fail)
          go_wp2
          generalize hW : W0.drewN _ = W
          have SC : Hid (ScanAt W c l (j + 1 : Nat)) := Lib.hid (by rw [← hW]; exact S0.out)
          have OW : Hid (Own 5 1 W (w.heap.size + 1) (Value.slice ao4 acc.length cap4) acc.length (byteVs acc)) := Lib.hid (by rw [← hW]; exact O0.out.quiet ((Chg.refl _ _).drewN _))
          have BK : Hid (W.heap[w.heap.size]? = some (.cells #[.int .i64 0, .string ⟨#[]⟩, .int .i64 0] 133 (0, 0))) := Lib.hid (by rw [← hW]; exact K0.out)
          have CX : Hid (Chg (OneB c) w W) := Lib.hid (by rw [← hW]; exact X0.out.drewN _)
          clear hW c0 c1 b0 b1 b2 fz hne1
          have hj0 : (0 : Int) ≤ (j : Int) + 1 := by omega
          have hj2 : (j : Int) + 1 < (l.length : Int) := by omega
          have HS3 : Hid (∀ V, Chg NoB W V → V.cell? ⟨c, 0, none⟩ = some (sv l) ∧ V.cell? ⟨c, 1, none⟩ = some (.int .i64 (((j : Int) + 1)))) := Lib.hid fun V hV => by
            have a := hV.heap SC.out (fun h => h)
            exact ⟨cell_of_row V c 0 _ _ _ a, cell_of_row V c 1 _ _ _ a⟩
          refine wp_region_lex (fun V => V.cell? ⟨c, 0, none⟩ = some (sv l) ∧ V.cell? ⟨c, 1, none⟩ = some (.int .i64 (((j : Int) + 1)))) 12 [10, 11, 12] [0, 1, 2, 3, 4, 5, 6, 7, 8, 9, 10, 11, 12] (by kernel_rfl) (by kernel_rfl) (HS3.out _ (Chg.refl _ _).drew) ?_
          iterate 10
            refine' lex_free (v := _) rfl rfl rfl ?_ (fun _ _ _ h => h) ?_
            rotate_left
            · rintro W ⟨hW1, hW2⟩
              go_simp
              with_reducible rfl
            try simp only [Act.put, List.setIfInBounds_toArray, List.set_cons_zero, List.set_cons_succ]
          refine lex_op rfl rfl rfl (fun K hK => ?_)
          go_simp
          refine hK _ _ (fun _ => HS3.out _ ((Chg.refl _ _).drew.alloc _)) ?_
          clear hK K
          try simp only [Act.put, List.setIfInBounds_toArray, List.set_cons_zero, List.set_cons_succ]
          refine lex_op rfl rfl rfl (fun K hK => ?_)
          refine own_wp u8_ok _ _ rfl (w.heap.size + 1) _ acc.length (byteVs acc) rfl (OW.out.quiet ((Chg.refl _ _).drew.alloc _)) (fun _ => True) (.slice (some ⟨W.heap.size, 0, none⟩) 1 1) 1 [.int .u8 (((39 : UInt8)).toNat : Int)] rfl ⟨_, 1, rfl, fun _ => ⟨W.heap.size, 0, rfl, by simp, trivial, range_block hal_new⟩⟩ rfl (fun y hy => by simp at hy; subst hy; rfl) (by unfold maxLen; omega) (by omega) (by have := CX.out.size; have := lt_of_heap BK.out; simp; omega) ?_
          intro v' w9 r9 x9 _
          obtain ⟨ao9, cap9, rfl, _⟩ := r9.form
          have y9 := ((Chg.refl (fun g => (Value.slice ao4 acc.length cap4).ownBlock = some g) W).drew.alloc (.cells #[.int .u8 (((39 : UInt8)).toNat : Int)] 5)).trans x9 (fun k h => .inl h)
          have R9 : Hid (Own 5 1 w9 (w.heap.size + 1) (.slice ao9 (acc.length + 1) cap9) (acc ++ [(39 : UInt8)]).length (byteVs (acc ++ [(39 : UInt8)]))) := Lib.hid (by simpa [byteVs] using r9)
          have hn4 : Hid (∀ g, (Value.slice ao4 acc.length cap4).ownBlock = some g → w.heap.size + 1 ≤ g) := Lib.hid OW.out.lo
          have SC9 : Hid (ScanAt w9 c l ((j + 1))) := Lib.hid (y9.heap SC.out (fun h => by have := hn4.out _ h; omega))
          have BK9 : Hid (w9.heap[w.heap.size]? = some (.cells #[.int .i64 0, .string ⟨#[]⟩, .int .i64 0] 133 (0, 0))) := Lib.hid (y9.heap BK.out (fun h => by have := hn4.out _ h; omega))
          have CX9 : Hid (Chg (OneB c) w w9) := Lib.hid (CX.out.trans y9 (fun g h => .inr (by have := hn4.out _ h; omega)))
          clear r9 x9 y9 HS3
          have c0 : w9.cell? ⟨c, 0, none⟩ = some (sv l) := cell_of_row w9 c 0 _ _ _ SC9.out
          have c1 : w9.cell? ⟨c, 1, none⟩ = some (.int .i64 (((j : Int) + 1))) := cell_of_row w9 c 1 _ _ _ SC9.out
          have f1 : w9.frozen? ⟨c, 1, none⟩ = false := by simp [World.frozen?, SC9.out]
          refine hK _ _ (fun _ => ⟨c0, c1⟩) ?_
          clear hK K
          try simp only [Act.put, List.setIfInBounds_toArray, List.set_cons_zero, List.set_cons_succ]
          refine lex_op rfl rfl rfl (fun K hK => ?_)
          go_simp
          refine hK _ _ (fun h => absurd rfl h) ?_
          clear hK K
          try simp only [Act.put, List.setIfInBounds_toArray, List.set_cons_zero, List.set_cons_succ]
          refine lex_nil ?_
          go_wp2
          have HT := TextInv.at_ hcl ((j + 1) + 1) (by omega) (acc ++ [(39 : UInt8)]) _ w9 (by simp; omega) EQ.out R9.out SC9.out BK9.out CX9.out
          have e1 := scPos_at HT.sc
          have e2 := scPos_at HI.out.sc
          have e0 : (((j + 1) + 1 : Nat) : Int) = ((j : Int) + 1) + 1 := by omega
          rw [e0] at HT e1
          exact ⟨⟨(j + 1) + 1, acc ++ [(39 : UInt8)], by omega, by simp; omega, Lib.hid HT⟩, by omega⟩
        · have HO := Lib.hid (textL_stop (acc := acc) HG.out hy39)
          have hcase : j + 1 = l.length ∨ ∃ y, l[j + 1]? = some y ∧ y ≠ 39 := by
            by_cases hj1 : j + 1 < l.length
            · exact .inr ⟨_, List.getElem?_eq_getElem hj1, fun e => hy39 (by rw [List.getElem?_eq_getElem hj1, e])⟩
            · exact .inl (by omega)
          clear hy39
          have hcb : ∀ n, (convert 157 9 (Value.slice ao4 acc.length cap4)).run Tryz.prog (W0.drewN n) = .ok (sv acc) (W0.drewN n) := fun n => conv_back (O0.out.quiet ((Chg.refl _ _).drewN n))
          by_cases h64 : acc.length ≤ 64
          · have H64 := Lib.hid h64
            have h64' : ¬ (64 : Int) < acc.length := by omega
            clear h64
            rcases hcase with hc1 | ⟨y, hy, hyn⟩
            · have hc2 : (((j : Int) + 1) == (l.length : Int)) = true := by simp; omega
              have HC1 := Lib.hid hc1
              clear hc1
              go_quiet (fail)
              go_wp2
              refine tok_ret rfl rfl rfl (tok_set K0.out _ _ _) (TokOut.yes (r := quoteL (l.drop (k + 1))) (t := ⟨4, acc, 0⟩) (rest := l.drop (j + 1)) (by unfold quoteL; rw [← HI.out.is, HO.out, if_pos H64.out]) ((((X0.out.drewN _).setCell (.inr (Nat.le_refl _)) _).setCell (.inr (Nat.le_refl _)) _).setCell (.inr (Nat.le_refl _)) _) (by have := HC1.out; omega) rfl ((hset_ne (by omega)).trans ((hset_ne (by omega)).trans ((hset_ne (by omega)).trans S0.out))))
            · have hj1 : j + 1 < l.length := (List.getElem?_eq_some_iff.1 hy).1
              have hb2 := ba_get hy
              have hne1 : (((j : Int) + 1) == (l.length : Int)) = false := by simp; omega
              have hne2 : ¬ ((y.toNat : Int) = 39) := fun e => hyn (UInt8.toNat_inj.1 (by have : (39 : UInt8).toNat = 39 := rfl; omega))
              clear hy hyn
              go_quiet (fail)
              go_wp2
              refine tok_ret rfl rfl rfl (tok_set K0.out _ _ _) (TokOut.yes (r := quoteL (l.drop (k + 1))) (t := ⟨4, acc, 0⟩) (rest := l.drop (j + 1)) (by unfold quoteL; rw [← HI.out.is, HO.out, if_pos H64.out]) ((((X0.out.drewN _).setCell (.inr (Nat.le_refl _)) _).setCell (.inr (Nat.le_refl _)) _).setCell (.inr (Nat.le_refl _)) _) (by omega) rfl ((hset_ne (by omega)).trans ((hset_ne (by omega)).trans ((hset_ne (by omega)).trans S0.out))))
          · have H64 := Lib.hid h64
            have h64' : (64 : Int) < acc.length := by omega
            clear h64
            rcases hcase with hc1 | ⟨y, hy, hyn⟩
            · have hc2 : (((j : Int) + 1) == (l.length : Int)) = true := by simp; omega
              have HC1 := Lib.hid hc1
              clear hc1
              go_quiet (fail)
              go_wp2
              refine tok_ret rfl rfl rfl (tok_set K0.out _ _ _) (TokOut.no (r := quoteL (l.drop (k + 1))) (by unfold quoteL; rw [← HI.out.is, HO.out, if_neg H64.out]) ((((X0.out.drewN _).setCell (.inr (Nat.le_refl _)) _).setCell (.inr (Nat.le_refl _)) _).setCell (.inr (Nat.le_refl _)) _) (by decide))
            · have hj1 : j + 1 < l.length := (List.getElem?_eq_some_iff.1 hy).1
              have hb2 := ba_get hy
              have hne1 : (((j : Int) + 1) == (l.length : Int)) = false := by simp; omega
              have hne2 : ¬ ((y.toNat : Int) = 39) := fun e => hyn (UInt8.toNat_inj.1 (by have : (39 : UInt8).toNat = 39 := rfl; omega))
              clear hy hyn
              go_quiet (fail)
              go_wp2
              refine tok_ret rfl rfl rfl (tok_set K0.out _ _ _) (TokOut.no (r := quoteL (l.drop (k + 1))) (by unfold quoteL; rw [← HI.out.is, HO.out, if_neg H64.out]) ((((X0.out.drewN _).setCell (.inr (Nat.le_refl _)) _).setCell (.inr (Nat.le_refl _)) _).setCell (.inr (Nat.le_refl _)) _) (by decide))
      · have hne : ¬ ((x.toNat : Int) = 39) := fun e => h39 (UInt8.toNat_inj.1 (by have : (39 : UInt8).toNat = 39 := rfl; omega))
        have EQ : Hid (textL (l.drop (j + 1)) (acc ++ [x]) = textL (l.drop (k + 1)) []) := Lib.hid ((textL_other HG.out (by simpa using h39)).symm.trans HI.out.is)
        clear h39
        go_wp2
        go_quiet (fail)
        go_wp2
        go_quiet (fail)
        go_wp2
        generalize hW : (wr.drewN _).drewN _ = W
        have SC : Hid (ScanAt W c l (j)) := Lib.hid (by rw [← hW]; exact ((HI.out.drewN _).drewN _).sc)
        have OW : Hid (Own 5 1 W (w.heap.size + 1) u4 acc.length (byteVs acc)) := Lib.hid (by rw [← hW]; exact ((HI.out.drewN _).drewN _).own)
        have BK : Hid (W.heap[w.heap.size]? = some (.cells #[.int .i64 0, .string ⟨#[]⟩, .int .i64 0] 133 (0, 0))) := Lib.hid (by rw [← hW]; exact ((HI.out.drewN _).drewN _).blk)
        have CX : Hid (Chg (OneB c) w W) := Lib.hid (by rw [← hW]; exact ((HI.out.drewN _).drewN _).chg)
        clear hW
        have HS3 : Hid (∀ V, Chg NoB W V → V.cell? ⟨c, 0, none⟩ = some (sv l) ∧ V.cell? ⟨c, 1, none⟩ = some (.int .i64 ((j : Int)))) := Lib.hid fun V hV => by
          have a := hV.heap SC.out (fun h => h)
          exact ⟨cell_of_row V c 0 _ _ _ a, cell_of_row V c 1 _ _ _ a⟩
        refine wp_region_lex (fun V => V.cell? ⟨c, 0, none⟩ = some (sv l) ∧ V.cell? ⟨c, 1, none⟩ = some (.int .i64 ((j : Int)))) 12 [10, 11, 12] [0, 1, 2, 3, 4, 5, 6, 7, 8, 9, 10, 11, 12] (by kernel_rfl) (by kernel_rfl) (HS3.out _ (Chg.refl _ _).drew) ?_
        iterate 10
          refine' lex_free (v := _) rfl rfl rfl ?_ (fun _ _ _ h => h) ?_
          rotate_left
          · rintro W ⟨hW1, hW2⟩
            go_simp
            with_reducible rfl
          try simp only [Act.put, List.setIfInBounds_toArray, List.set_cons_zero, List.set_cons_succ]
        refine lex_op rfl rfl rfl (fun K hK => ?_)
        go_simp
        refine hK _ _ (fun _ => HS3.out _ ((Chg.refl _ _).drew.alloc _)) ?_
        clear hK K
        try simp only [Act.put, List.setIfInBounds_toArray, List.set_cons_zero, List.set_cons_succ]
        refine lex_op rfl rfl rfl (fun K hK => ?_)
        refine own_wp u8_ok _ _ rfl (w.heap.size + 1) _ acc.length (byteVs acc) rfl (OW.out.quiet ((Chg.refl _ _).drew.alloc _)) (fun _ => True) (.slice (some ⟨W.heap.size, 0, none⟩) 1 1) 1 [.int .u8 ((x).toNat : Int)] rfl ⟨_, 1, rfl, fun _ => ⟨W.heap.size, 0, rfl, by simp, trivial, range_block hal_new⟩⟩ rfl (fun y hy => by simp at hy; subst hy; rfl) (by unfold maxLen; omega) (by omega) (by have := CX.out.size; have := lt_of_heap BK.out; simp; omega) ?_
        intro v' w9 r9 x9 _
        obtain ⟨ao9, cap9, rfl, _⟩ := r9.form
        have y9 := ((Chg.refl (fun g => u4.ownBlock = some g) W).drew.alloc (.cells #[.int .u8 ((x).toNat : Int)] 5)).trans x9 (fun k h => .inl h)
        have R9 : Hid (Own 5 1 w9 (w.heap.size + 1) (.slice ao9 (acc.length + 1) cap9) (acc ++ [x]).length (byteVs (acc ++ [x]))) := Lib.hid (by simpa [byteVs] using r9)
        have hn4 : Hid (∀ g, u4.ownBlock = some g → w.heap.size + 1 ≤ g) := Lib.hid OW.out.lo
        have SC9 : Hid (ScanAt w9 c l (j)) := Lib.hid (y9.heap SC.out (fun h => by have := hn4.out _ h; omega))
        have BK9 : Hid (w9.heap[w.heap.size]? = some (.cells #[.int .i64 0, .string ⟨#[]⟩, .int .i64 0] 133 (0, 0))) := Lib.hid (y9.heap BK.out (fun h => by have := hn4.out _ h; omega))
        have CX9 : Hid (Chg (OneB c) w w9) := Lib.hid (CX.out.trans y9 (fun g h => .inr (by have := hn4.out _ h; omega)))
        clear r9 x9 y9 HS3
        have c0 : w9.cell? ⟨c, 0, none⟩ = some (sv l) := cell_of_row w9 c 0 _ _ _ SC9.out
        have c1 : w9.cell? ⟨c, 1, none⟩ = some (.int .i64 ((j : Int))) := cell_of_row w9 c 1 _ _ _ SC9.out
        have f1 : w9.frozen? ⟨c, 1, none⟩ = false := by simp [World.frozen?, SC9.out]
        refine hK _ _ (fun _ => ⟨c0, c1⟩) ?_
        clear hK K
        try simp only [Act.put, List.setIfInBounds_toArray, List.set_cons_zero, List.set_cons_succ]
        refine lex_op rfl rfl rfl (fun K hK => ?_)
        go_simp
        refine hK _ _ (fun h => absurd rfl h) ?_
        clear hK K
        try simp only [Act.put, List.setIfInBounds_toArray, List.set_cons_zero, List.set_cons_succ]
        refine lex_nil ?_
        go_wp2
        have HT := TextInv.at_ hcl (j + 1) (by omega) (acc ++ [x]) _ w9 (by simp; omega) EQ.out R9.out SC9.out BK9.out CX9.out
        have e1 := scPos_at HT.sc
        have e2 := scPos_at HI.out.sc
        have e0 : ((j + 1 : Nat) : Int) = (j : Int) + 1 := by omega
        rw [e0] at HT e1
        exact ⟨⟨j + 1, acc ++ [x], by omega, by simp; omega, Lib.hid HT⟩, by omega⟩
    · have HO : Hid (quoteL (l.drop (k + 1)) = none) := Lib.hid (by unfold quoteL; rw [← HI.out.is, textL_end (by omega)])
      go_wp2
      go_quiet (fail)
      go_wp2
      refine tok_ret rfl rfl rfl (tok_set HI.out.blk _ _ _) (TokOut.no (r := quoteL (l.drop (k + 1))) HO.out ((((HI.out.chg.drewN _).setCell (.inr (Nat.le_refl _)) _).setCell (.inr (Nat.le_refl _)) _).setCell (.inr (Nat.le_refl _)) _) (by decide))
end Go.Proofs.YtnbckfkdmkbopaaGreatDoor
