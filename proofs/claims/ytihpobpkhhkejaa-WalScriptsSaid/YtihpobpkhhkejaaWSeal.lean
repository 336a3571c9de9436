/-
  What the log does to its head: the head's write, and Sync. Conditions: a log over a disk stands at the address.
-/
import Derived.Test.YtihpobpkhhkejaaWSec
set_option autoImplicit false
namespace Go.Proofs.Ytihpobpkhhkejaa
open Go Go.RowKit

theorem up64_lt (c : Int) : 0 ≤ up64 c ∧ up64 c < 18446744073709551616 := by unfold up64; omega
theorem up64_wrap (c : Int) : IntKind.u64.wrap (c + 1) = up64 c := by simp [IntKind.wrap, IntKind.bits, IntKind.signed, up64]
set_option maxRecDepth 100000 in
set_option maxHeartbeats 1000000 in
theorem seal_any (l d : Nat) (A F : Nat → Prop) (D : Dsk) (L : Lg) (w : World) (n : Nat) (hd : DiskAt w d A D) (hl : LogAt w l d F L) (hap : ∀ k, A k → ¬ F k) (hn : n ≤ L.st.length) (hsz : 3 ≤ D.size) (hlen : D.wait.length < 2900000000000) :
    Calls Try.prog 56 #[.pointer (some ⟨l, 0, none⟩), .int .i64 n] w fun e w' => e = .returned (.int .i64 (sealR D L n).1) ∧ DiskAt w' d (Ext A w w') (sealR D L n).2.1 ∧ LogAt w' l d F (sealR D L n).2.2 ∧ Chg (fun k => A k ∨ F k) w w' := by
  obtain ⟨sv, hl⟩ := hl
  obtain ⟨so, sc, rfl, _⟩ := hl.row.form
  obtain ⟨c0, c1, c2, c3, c4, c5⟩ := hl.cells
  have s1 := hl.ok.s1
  have hup := up64_wrap L.cnt
  have hul := up64_lt L.cnt
  have hn2 : IntKind.u64.wrap (n : Int) = n := wrapU _ (by omega) (by omega)
  have HL := Lib.hid hl
  have hd2 := hd.mono (G := fun k => A k ∧ k < w.heap.size) (fun k hk hl => ⟨hk, hl⟩)
  have HD := Lib.hid hd2; have HUP := Lib.hid hup; have HN2 := Lib.hid hn2
  clear hl hd hd2 hup hn2
  have hcap := HL.out.row.capLe
  generalize hU : up64 L.cnt = U at *
  have HUE := Lib.hid hU
  clear hU
  go_enter Try.func56, Try.ntmps56
  go_wp2_with (refine wpList_alloc_sec rfl rfl ?_)
  rw [HUP.out]
  rw [show (w.alloc (.cells #[.int .u64 U, .int .u64 n] 101)).heap.size = w.heap.size + 1 by simp]
  obtain ⟨W1, hW1⟩ : ∃ W1, W1 = (w.alloc (.cells #[.int .u64 U, .int .u64 n] 101)).alloc (.cells (secC sec0).toArray 31) := ⟨_, rfl⟩
  rw [← hW1]
  have g1 : W1.heap[w.heap.size]? = some (.cells #[.int .u64 U, .int .u64 n] 101 (0, 0)) := by rw [hW1, hal_old (by simp)]; exact hal_new
  have g2 : W1.heap[w.heap.size + 1]? = some (.cells (secC sec0).toArray 31 (0, 0)) := by
    have := hal_new (w := w.alloc (.cells #[.int .u64 U, .int .u64 n] 101)) (o := .cells (secC sec0).toArray 31)
    rw [hW1]; simpa using this
  have hs1 : W1.heap.size = w.heap.size + 2 := by rw [hW1]; simp
  have x1 : Chg (fun _ => False) w W1 := by rw [hW1]; exact ((Chg.refl _ _).alloc _).alloc _
  have G1 := Lib.hid g1; have G2 := Lib.hid g2; have X1 := Lib.hid x1
  clear hW1 c0 c1 c2 c3 c4
  have k0 := cell_of_row W1 _ 0 _ _ _ g1
  have k1 := cell_of_row W1 _ 1 _ _ _ g1
  clear g1 g2 x1
  refine wp_region_lex (fun w' => w'.cell? ⟨w.heap.size, 0, none⟩ = some (.int .u64 U) ∧ w'.cell? ⟨w.heap.size, 1, none⟩ = some (.int .u64 n)) 8 [3, 6, 7, 8] [0, 1, 2, 4, 5, 3, 6, 7, 8] (by kernel_rfl) (by kernel_rfl) ⟨k0, k1⟩ ?_
  clear k0 k1
  try simp only [Act.put, List.setIfInBounds_toArray, List.set_cons_zero, List.set_cons_succ]
  iterate 5
    refine' lex_free (v := _) rfl rfl rfl ?_ (fun _ _ _ h => h) ?_
    rotate_left
    · rintro W ⟨hW1, hW2⟩
      go_simp
      with_reducible rfl
    try simp only [Act.put, List.setIfInBounds_toArray, List.set_cons_zero, List.set_cons_succ]
  have z1 := X1.out.size
  have HS := Lib.hid (show W1.heap.size = w.heap.size + 2 from hs1)
  clear hs1
  refine lex_op rfl rfl rfl (fun K hK => ?_)
  go_simp
  refine (bytes_any U 8 W1.drew hul.1 hul.2 (by omega)).mono ?_
  rintro e w2 ⟨v2, rfl, b2, x2⟩
  have g1 := x2.heap (show W1.drew.heap[w.heap.size]? = _ from G1.out) (fun h => h)
  have g2 := x2.heap (show W1.drew.heap[w.heap.size + 1]? = _ from G2.out) (fun h => h)
  have x02 := X1.out.drew.trans x2 (fun _ h => .inl h)
  have z2 : W1.heap.size ≤ w2.heap.size := x2.size
  have G12 := Lib.hid g1; have G22 := Lib.hid g2; have X2 := Lib.hid x02; have B2 := Lib.hid (show Byts w2 W1.heap.size v2 (leN U 8) from b2)
  refine hK _ _ (fun _ => ⟨cell_of_row w2 _ 0 _ _ _ G12.out, cell_of_row w2 _ 1 _ _ _ G12.out⟩) ?_
  clear hK K
  try simp only [Act.put, List.setIfInBounds_toArray, List.set_cons_zero, List.set_cons_succ]
  clear g1 g2 x02 x2 b2
  refine lex_op rfl rfl rfl (fun K hK => ?_)
  go_simp
  refine (bytes_any n 4 w2 (by omega) (by omega) (by omega)).mono ?_
  rintro e w3 ⟨v3, rfl, b3, x3⟩
  have g1 := x3.heap G12.out (fun h => h)
  have g2 := x3.heap G22.out (fun h => h)
  have x03 := X2.out.trans x3 (fun _ h => .inl h)
  have b23 := B2.out.quiet x3
  have z3 := x3.size
  have G13 := Lib.hid g1; have G23 := Lib.hid g2; have X3 := Lib.hid x03; have B3 := Lib.hid b3; have B23 := Lib.hid b23
  obtain ⟨o3, cc3, rfl, _⟩ := b3.form
  refine hK _ _ (fun _ => ⟨cell_of_row w3 _ 0 _ _ _ G13.out, cell_of_row w3 _ 1 _ _ _ G13.out⟩) ?_
  clear hK K
  try simp only [Act.put, List.setIfInBounds_toArray, List.set_cons_zero, List.set_cons_succ]
  clear g1 g2 x03 x3 b3 b23
  refine lex_op rfl rfl rfl (fun K hK => ?_)
  refine wp_byts _ _ rfl _ v2 (leN U 8) rfl B23.out o3 cc3 (leN n 4) rfl B3.out.get.2.1 B3.out.get.2.2 (by simp) (by show W1.heap.size ≤ _; omega) (fun v4 w4 y4 x4 n4 => ?_)
  have lo2 : ∀ g, v2.ownBlock = some g → w.heap.size + 2 ≤ g := fun g hg => by have := B2.out.lo g hg; have := HS.out; omega
  have g1 := x4.heap G13.out (fun h => by have := lo2 _ h; omega)
  have g2 := x4.heap G23.out (fun h => by have := lo2 _ h; omega)
  have x04 := X3.out.trans x4 (fun g h => .inr (by have := lo2 g h; omega))
  obtain ⟨o4, cc4, he4, _⟩ := y4.form
  rw [show (leN U 8 ++ leN (n : Int) 4).length = 12 by simp] at he4
  subst he4
  have G14 := Lib.hid g1; have G24 := Lib.hid g2; have X4 := Lib.hid x04; have Y4 := Lib.hid y4
  refine hK _ _ (fun _ => ⟨cell_of_row w4 _ 0 _ _ _ G14.out, cell_of_row w4 _ 1 _ _ _ G14.out⟩) ?_
  clear hK K
  try simp only [Act.put, List.setIfInBounds_toArray, List.set_cons_zero, List.set_cons_succ]
  clear g1 g2 x04 x4 y4 n4
  refine lex_op rfl rfl rfl (fun K hK => ?_)
  refine wp_copy_sec _ _ rfl (w.heap.size + 1) 64 rfl G24.out o4 12 cc4 rfl (leN U 8 ++ leN n 4) (by simp) Y4.out.get.2.1 Y4.out.get.2.2 (fun w5 g5 x5 => ?_)
  have g1 := x5.heap G14.out (by omega)
  have x05 := X4.out.trans x5 (fun g h => .inr (by omega))
  have G15 := Lib.hid g1; have G25 := Lib.hid (show w5.heap[w.heap.size + 1]? = some (.cells (secC (headSec U n)).toArray 31 (0, 0)) from g5); have X5 := Lib.hid x05
  have L5 := Lib.hid (x05.heap HL.out.self (fun h => h))
  refine hK _ _ (fun h => absurd rfl h) ?_
  clear hK K
  try simp only [Act.put, List.setIfInBounds_toArray, List.set_cons_zero, List.set_cons_succ]
  clear g1 g5 x5 x05
  refine lex_nil ?_
  go_wp2_with fail
  have hsl : (secC (headSec U n)).length = 64 := by simp [headSec_len]
  have hi64 : (Try.prog.info? 31).map (·.size) = some (secC (headSec U n)).length := by rw [hsl]; exact info_sec
  have HI := Lib.hid hi64
  clear hi64 hsl
  have q1 := cell_of_row w5 l 0 _ _ _ L5.out
  have q2 := cell_of_row w5 _ 0 _ _ _ G15.out
  have q3 := range_block G25.out
  refine wp_region_lex (fun w' => w'.cell? ⟨l, 0, none⟩ = some (.pointer (some ⟨d, 0, none⟩)) ∧ w'.cell? ⟨w.heap.size, 0, none⟩ = some (.int .u64 U) ∧ w'.rangeAt (w.heap.size + 1) 0 (secC (headSec U n))) 99 [9] [0, 1, 2, 3, 4, 5, 6, 7, 8, 9, 10] (by kernel_rfl) (by kernel_rfl) ⟨q1, q2, q3⟩ ?_
  clear q1 q2 q3
  iterate 8
    refine' lex_free (v := _) rfl rfl rfl ?_ (fun _ _ _ h => h) ?_
    rotate_left
    · rintro W ⟨hW1, hW2, _⟩
      go_simp
      with_reducible rfl
    try simp only [Act.put, List.setIfInBounds_toArray, List.set_cons_zero, List.set_cons_succ]
  refine lex_free (v := .agg (secC (headSec U n)).toArray) rfl rfl rfl (fun W hW => exec_load_mid rfl rfl hW.2.2 Try.underlying31 rfl HI.out) (fun _ _ _ h => h) ?_
  try simp only [Act.put, List.setIfInBounds_toArray, List.set_cons_zero, List.set_cons_succ]
  have hrem : IntKind.i64.wrap (U.tmod 2) = U % 2 := by rw [Int.tmod_eq_emod_of_nonneg hul.1, wrapI _ (by omega) (by omega)]
  have HREM := Lib.hid hrem
  clear hrem
  refine lex_op rfl rfl rfl (fun K hK => ?_)
  go_simp
  rw [HREM.out]
  have hf5 : ∀ k, (A k ∧ k < w.heap.size) → ¬ False := fun _ _ h => h
  refine (write_any d _ D (U % 2) (headSec U n) w5.drew (HD.out.chg (X5.out.drew) (fun _ _ h => h)) (headSec_len _ _) (by omega)).mono ?_
  rintro e w6 ⟨rfl, d6, x6⟩
  have l6 := x6.heap (show w5.drew.heap[l]? = _ from L5.out) (fun h => hap _ h.1 HL.out.fl)
  have g16 := x6.heap (show w5.drew.heap[w.heap.size]? = _ from G15.out) (fun h => by omega)
  have g26 := x6.heap (show w5.drew.heap[w.heap.size + 1]? = _ from G25.out) (fun h => by omega)
  have x06 : Chg (fun k => A k ∧ k < w.heap.size) w w6 := (X5.out.drew.mono (fun _ h => h.elim)).trans x6 (fun _ h => .inl h)
  have z5 : w.heap.size + 2 ≤ w5.heap.size := by have := lt_of_heap G25.out; omega
  have L6 := Lib.hid l6; have G16 := Lib.hid g16; have X6 := Lib.hid x06; have D6 := Lib.hid d6
  refine hK _ _ (fun _ => ⟨cell_of_row w6 l 0 _ _ _ L6.out, cell_of_row w6 _ 0 _ _ _ G16.out, range_block g26⟩) ?_
  clear hK K
  try simp only [Act.put, List.setIfInBounds_toArray, List.set_cons_zero, List.set_cons_succ]
  clear l6 g16 g26 x6 d6 x06
  iterate 1
    refine' lex_free (v := _) rfl rfl rfl ?_ (fun _ _ _ h => h) ?_
    rotate_left
    · rintro W ⟨hW1, hW2, _⟩
      go_simp
      with_reducible rfl
    try simp only [Act.put, List.setIfInBounds_toArray, List.set_cons_zero, List.set_cons_succ]
  refine lex_nil ?_
  have fin : ∀ k, Ext (fun k => A k ∧ k < w.heap.size) w5.drew w6 k → k < w6.heap.size → Ext A w w6 k := fun k hk hl => by
    rcases hk with h | h
    · exact .inl h.1
    · have : w5.heap.size ≤ k := h.1
      exact .inr ⟨by omega, hl⟩
  have FIN := Lib.hid fin
  clear fin
  cases hdn : D.down with
  | true =>
    have he : errOf D.size true (U % 2) = 24 := by unfold errOf; rw [if_neg (by omega)]; rfl
    have hw : D.writeR (U % 2) (headSec U n) = D := by unfold Dsk.writeR; rw [hdn, he, if_neg (by decide)]
    rw [hw] at D6
    have HS := Lib.hid (show sealR D L n = (24, D, L) by unfold sealR; rw [if_pos hdn])
    rw [he]
    clear hw he
    go_wp2
    go_ret
    rw [HS.out]
    exact ⟨rfl, D6.out.mono FIN.out, ⟨_, HL.out.chg X6.out (fun k hk ha => hap k ha.1 hk)⟩, X6.out.mono (fun k hk => .inl (.inl hk.1))⟩
  | false =>
    have he : errOf D.size false (U % 2) = 0 := errOf_in (by omega) (by omega)
    have hw : D.writeR (U % 2) (headSec U n) = D.write (U % 2) (headSec U n) := by unfold Dsk.writeR; rw [hdn, he, if_pos rfl]
    rw [hw] at D6
    rw [he]
    have hs : sealR D L n = if (D.write (U % 2) (headSec U n)).down then (24, D.write (U % 2) (headSec U n), L) else (0, (D.write (U % 2) (headSec U n)).sync, { cnt := U, len := n, st := L.st.take n, wait := 0 }) := by
      unfold sealR; rw [if_neg (by rw [hdn]; decide), HUE.out]
    have hwl : (D.write (U % 2) (headSec U n)).wait.length = D.wait.length + 1 := by
      unfold Dsk.write Dsk.change
      split <;> simp [Dsk.put]
    obtain ⟨D1, hD1⟩ : ∃ D1, D1 = D.write (U % 2) (headSec U n) := ⟨_, rfl⟩
    rw [← hD1] at hs hwl D6
    have HS := Lib.hid hs
    clear hw he hs hD1
    have l0 := cell_of_row w6 l 0 _ _ _ L6.out
    go_wp2_with fail
    refine (sync_any d _ D1 w6 D6.out (by omega)).mono ?_
    rintro e w7 ⟨rfl, d7, x7⟩
    have l7 := x7.heap L6.out (fun h => by
      rcases h with h | h
      · exact hap _ h.1 HL.out.fl
      · have : w5.heap.size ≤ l := h.1; omega)
    have g17 := x7.heap G16.out (fun h => by
      rcases h with h | h
      · omega
      · have : w5.heap.size ≤ _ := h.1; omega)
    have x07 : Chg (fun k => A k ∧ k < w.heap.size) w w7 := X6.out.trans x7 (fun k h => by
      rcases h with h | h
      · exact .inl h
      · have : w5.heap.size ≤ k := h.1; exact .inr (by omega))
    have L7 := Lib.hid l7; have X7 := Lib.hid x07; have G17 := Lib.hid g17
    have d07 := d7.mono (G := Ext A w w7) (fun k hk hl => by
      rcases hk with h | h
      · rcases h with h | h
        · exact .inl h.1
        · have : w5.heap.size ≤ k := h.1; exact .inr ⟨by omega, hl⟩
      · have := X6.out.size; exact .inr ⟨by omega, hl⟩)
    have D7 := Lib.hid d07
    cases hd1 : D1.down with
    | true =>
      simp only [if_true]
      clear d7 x7 l7 x07 d07 g17
      rw [hd1] at D7 HS
      go_wp2
      go_ret
      rw [HS.out]
      exact ⟨rfl, D7.out, ⟨_, HL.out.chg X7.out (fun k hk ha => hap k ha.1 hk)⟩, X7.out.mono (fun k hk => .inl (.inl hk.1))⟩
    | false =>
      simp only [Bool.false_eq_true, if_false]
      clear d7 x7 l7 x07 d07 g17
      rw [hd1] at D7 HS
      have k0 := cell_of_row w7 _ 0 _ _ _ G17.out
      have k1 := cell_of_row w7 _ 1 _ _ _ G17.out
      have k3 := cell_of_row w7 l 3 _ _ _ L7.out
      go_wp2_with fail
      refine wp_region_lex (fun w' => w'.cell? ⟨w.heap.size, 0, none⟩ = some (.int .u64 U) ∧ w'.cell? ⟨w.heap.size, 1, none⟩ = some (.int .u64 n) ∧ w'.cell? ⟨l, 3, none⟩ = some (.slice so L.st.length sc)) 18 [12, 15, 18] [0, 1, 2, 3, 4, 5, 6, 7, 8, 9, 10, 11, 12, 13, 14, 15, 16, 17, 18] (by kernel_rfl) (by kernel_rfl) ⟨k0, k1, k3⟩ ?_
      clear k0 k1 k3
      iterate 9
        refine' lex_free (v := _) rfl rfl rfl ?_ (fun _ _ _ h => h) ?_
        rotate_left
        · rintro W ⟨hW1, hW2, hW3⟩
          go_simp
          with_reducible rfl
        try simp only [Act.put, List.setIfInBounds_toArray, List.set_cons_zero, List.set_cons_succ]
      have hnsc : n ≤ sc := by omega
      refine lex_free (v := .slice so n sc) rfl rfl rfl (fun W ⟨hW1, hW2, hW3⟩ => by go_simp) (fun _ _ _ h => h) ?_
      try simp only [Act.put, List.setIfInBounds_toArray, List.set_cons_zero, List.set_cons_succ]
      iterate 2
        refine' lex_free (v := _) rfl rfl rfl ?_ (fun _ _ _ h => h) ?_
        rotate_left
        · rintro W ⟨hW1, hW2, hW3⟩
          go_simp
          with_reducible rfl
        try simp only [Act.put, List.setIfInBounds_toArray, List.set_cons_zero, List.set_cons_succ]
      have m1 := cell_of_row w7 l 1 _ _ _ L7.out
      have m2 := cell_of_row w7 l 2 _ _ _ L7.out
      have m3 := cell_of_row w7 l 3 _ _ _ L7.out
      have m4 := cell_of_row w7 l 4 _ _ _ L7.out
      have ff : ∀ o, w7.frozen? ⟨l, o, none⟩ = false := fun o => frozen_of_row w7 l o _ _ L7.out
      refine lex_op rfl rfl rfl (fun K hK => ?_)
      go_simp
      have nb : w.heap.size ≠ l := by omega
      obtain ⟨W8, hW8⟩ : ∃ W8, W8 = ((w7.setCell ⟨l, 1, none⟩ (.int .u64 U)).setCell ⟨l, 2, none⟩ (.int .u64 n)).drew := ⟨_, rfl⟩
      rw [← hW8]
      have l8 : W8.heap[l]? = some (.cells #[.pointer (some ⟨d, 0, none⟩), .int .u64 U, .int .u64 n, .slice so L.st.length sc, .int .i64 L.wait] 103 (0, 0)) := by
        rw [hW8]; show ((w7.setCell _ _).setCell _ _).heap[l]? = _; rw [hset_eq (hset_eq L7.out)]; rfl
      have g18 : W8.heap[w.heap.size]? = some (.cells #[.int .u64 U, .int .u64 n] 101 (0, 0)) := by
        rw [hW8]; show ((w7.setCell _ _).setCell _ _).heap[_]? = _; rw [hset_ne nb, hset_ne nb]; exact G17.out
      have x8 : Chg (fun k => k = l) w7 W8 := by
        rw [hW8]; exact (((Chg.refl (fun k => k = l) w7).setCell (p := ⟨l, 1, none⟩) (.inl rfl) _).setCell (p := ⟨l, 2, none⟩) (.inl rfl) _).drew
      have L8 := Lib.hid l8; have G18 := Lib.hid g18; have X8 := Lib.hid x8
      clear hW8 m1 m2 m3 m4 ff
      refine hK _ _ (fun _ => ⟨cell_of_row W8 _ 0 _ _ _ G18.out, cell_of_row W8 _ 1 _ _ _ G18.out, cell_of_row W8 l 3 _ _ _ L8.out⟩) ?_
      clear hK K
      try simp only [Act.put, List.setIfInBounds_toArray, List.set_cons_zero, List.set_cons_succ]
      clear l8 g18 x8
      iterate 2
        refine' lex_free (v := _) rfl rfl rfl ?_ (fun _ _ _ h => h) ?_
        rotate_left
        · rintro W ⟨hW1, hW2, hW3⟩
          go_simp
          with_reducible rfl
        try simp only [Act.put, List.setIfInBounds_toArray, List.set_cons_zero, List.set_cons_succ]
      have m3 := cell_of_row W8 l 3 _ _ _ L8.out
      have m4 := cell_of_row W8 l 4 _ _ _ L8.out
      have ff : ∀ o, W8.frozen? ⟨l, o, none⟩ = false := fun o => frozen_of_row W8 l o _ _ L8.out
      refine lex_op rfl rfl rfl (fun K hK => ?_)
      go_simp
      obtain ⟨W9, hW9⟩ : ∃ W9, W9 = W8.setCell ⟨l, 4, none⟩ (.int .i64 0) := ⟨_, rfl⟩
      rw [← hW9]
      have l9 : W9.heap[l]? = some (.cells #[.pointer (some ⟨d, 0, none⟩), .int .u64 U, .int .u64 n, .slice so L.st.length sc, .int .i64 0] 103 (0, 0)) := by
        rw [hW9, hset_eq L8.out]; rfl
      have g19 : W9.heap[w.heap.size]? = some (.cells #[.int .u64 U, .int .u64 n] 101 (0, 0)) := by
        rw [hW9, hset_ne nb]; exact G18.out
      have x9 : Chg (fun k => k = l) w7 W9 := by
        rw [hW9]; exact X8.out.setCell (p := ⟨l, 4, none⟩) (.inl rfl) _
      have L9 := Lib.hid l9; have X9 := Lib.hid x9; have G19 := Lib.hid g19
      clear hW9 m3 m4 ff
      refine hK _ _ (fun _ => ⟨cell_of_row W9 _ 0 _ _ _ G19.out, cell_of_row W9 _ 1 _ _ _ G19.out, cell_of_row W9 l 3 _ _ _ L9.out⟩) ?_
      clear hK K
      try simp only [Act.put, List.setIfInBounds_toArray, List.set_cons_zero, List.set_cons_succ]
      clear l9 g19 x9
      iterate 2
        refine' lex_free (v := _) rfl rfl rfl ?_ (fun _ _ _ h => h) ?_
        rotate_left
        · rintro W ⟨hW1, hW2, hW3⟩
          go_simp
          with_reducible rfl
        try simp only [Act.put, List.setIfInBounds_toArray, List.set_cons_zero, List.set_cons_succ]
      have m3 := cell_of_row W9 l 3 _ _ _ L9.out
      have ff : ∀ o, W9.frozen? ⟨l, o, none⟩ = false := fun o => frozen_of_row W9 l o _ _ L9.out
      refine lex_op rfl rfl rfl (fun K hK => ?_)
      go_simp
      refine hK _ _ (fun h => absurd rfl h) ?_
      clear hK K
      try simp only [Act.put, List.setIfInBounds_toArray, List.set_cons_zero, List.set_cons_succ]
      refine lex_nil ?_
      clear m3 ff
      go_wp2
      go_ret
      rw [HS.out]
      have hh := HL.out
      have xl : Chg (fun k => k = l) w7 (W9.setCell ⟨l, 3, none⟩ (.slice so n sc)) := X9.out.setCell (p := ⟨l, 3, none⟩) (.inl rfl) _
      have hz : (W9.setCell ⟨l, 3, none⟩ (.slice so n sc)).heap.size = W9.heap.size := by simp
      have hz9 := X9.out.size
      refine ⟨rfl, ?_, ⟨.slice so n sc, ?_, ?_, hh.fl, fun g hg => hh.fs g (by cases so with | none => simp [Value.ownBlock] at hg | some a => simpa [Value.ownBlock] using hg), ?_⟩, ?_⟩
      · refine (D7.out.chg xl (fun k hk e => ?_)).mono (fun k hk hl => ?_)
        · subst e
          rcases hk with h | h
          · exact hap _ h hh.fl
          · have := h.1; omega
        · rcases hk with h | h
          · exact .inl h
          · exact .inr ⟨h.1, hl⟩
      · rw [hset_eq L9.out]; rfl
      · have hb : Byts w7 0 (.slice so L.st.length sc) L.st := hh.row.chg X7.out (fun g hg h => hap _ h.1 (hh.fs g hg))
        exact (hb.chg xl (fun g hg => hh.ne hg)).take n hn
      · refine ⟨hul.1, hul.2, by show (0 : Int) ≤ n; omega, ?_, ?_, fun b hb => hh.ok.by_ b (List.mem_of_mem_take hb), by show (0 : Int) ≤ 0; omega, ?_⟩
        · show (n : Int) ≤ (L.st.take n).length; rw [List.length_take]; omega
        · show (L.st.take n).length ≤ _; rw [List.length_take]; omega
        · show 4 * (0 : Int) ≤ _; omega
      · exact (X7.out.mono (fun k hk => .inl (.inl hk.1))).trans xl (fun k hk => by subst hk; exact .inl (.inr hh.fl))
end Go.Proofs.Ytihpobpkhhkejaa
