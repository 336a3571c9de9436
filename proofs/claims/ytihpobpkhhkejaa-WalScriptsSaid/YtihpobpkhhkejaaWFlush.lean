/-
  What the log's Flush and Reset do. Conditions: a log over a disk stands at the address, its bytes fit the disk.
-/
import Derived.Test.YtihpobpkhhkejaaWSeal
set_option autoImplicit false
namespace Go.Proofs.Ytihpobpkhhkejaa
open Go Go.RowKit

theorem reset_nil (w : World) : Calls Try.prog 36 #[.pointer none] w fun e w' => e = .returned (.int .i64 2) ∧ w = w' := by
  go_enter Try.func36, Try.ntmps36
  go_wp2
  go_ret
  exact ⟨rfl, rfl⟩
theorem reset_any (l d : Nat) (A F : Nat → Prop) (D : Dsk) (L : Lg) (w : World) (hd : DiskAt w d A D) (hl : LogAt w l d F L) (hap : ∀ k, A k → ¬ F k) (hsz : 3 ≤ D.size) (hlen : D.wait.length < 2900000000000) :
    Calls Try.prog 36 #[.pointer (some ⟨l, 0, none⟩)] w fun e w' => e = .returned (.int .i64 (sealR D L 0).1) ∧ DiskAt w' d (Ext A w w') (sealR D L 0).2.1 ∧ LogAt w' l d F (sealR D L 0).2.2 ∧ Chg (fun k => A k ∨ F k) w w' := by
  go_enter Try.func36, Try.ntmps36
  go_wp2_with fail
  refine (seal_any l d A F D L w 0 hd hl hap (Nat.zero_le _) hsz hlen).mono ?_
  rintro e w1 ⟨rfl, d1, l1, x1⟩
  go_wp2
  go_ret
  exact ⟨rfl, d1, l1, x1⟩
theorem flush_nil (w : World) : Calls Try.prog 35 #[.pointer none] w fun e w' => e = .returned (.int .i64 2) ∧ w = w' := by
  go_enter Try.func35, Try.ntmps35
  go_wp2
  go_ret
  exact ⟨rfl, rfl⟩
theorem flush_idle (l d : Nat) (F : Nat → Prop) (L : Lg) (w : World) (hl : LogAt w l d F L) (h0 : L.wait = 0) : Calls Try.prog 35 #[.pointer (some ⟨l, 0, none⟩)] w fun e w' => e = .returned (.int .i64 0) ∧ w = w' := by
  obtain ⟨sv, h⟩ := hl
  obtain ⟨c0, c1, c2, c3, c4, c5⟩ := h.cells
  rw [h0] at c4
  clear h
  go_enter Try.func35, Try.ntmps35
  go_wp2
  go_ret
  exact ⟨rfl, rfl⟩
theorem write_size (D : Dsk) (n : Int) (s : Sec) : (D.write n s).size = D.size ∧ (D.write n s).wait = D.wait ++ [(n, s)] := by
  unfold Dsk.write Dsk.change
  split <;> exact ⟨rfl, rfl⟩
set_option maxRecDepth 100000 in
set_option maxHeartbeats 1000000 in
theorem flush_work (l d : Nat) (A F : Nat → Prop) (D : Dsk) (L : Lg) (w : World) (hd : DiskAt w d A D) (hl : LogAt w l d F L) (hap : ∀ k, A k → ¬ F k) (hsz : 3 ≤ D.size) (hroom : (L.st.length : Int) ≤ (D.size - 2) * 64) (hlen : D.wait.length < 2800000000000) (h0 : L.wait ≠ 0) :
    Calls Try.prog 35 #[.pointer (some ⟨l, 0, none⟩)] w fun e w' => e = .returned (.int .i64 (flushR D L).1) ∧ DiskAt w' d (Ext A w w') (flushR D L).2.1 ∧ LogAt w' l d F (flushR D L).2.2 ∧ Chg (fun k => A k ∨ F k) w w' := by
  obtain ⟨sv, hl⟩ := hl
  obtain ⟨so, sc, rfl, hso⟩ := hl.row.form
  obtain ⟨c0, c1, c2, c3, c4, c5⟩ := hl.cells
  have s1 := hl.ok.s1
  have l0 := hl.ok.l0
  have l1 := hl.ok.l1
  have D1 := hd.ok.2.1
  have hcap := hl.row.capLe
  have HL := Lib.hid hl
  have hd2 := hd.mono (G := fun k => A k ∧ k < w.heap.size) (fun k hk hl => ⟨hk, hl⟩)
  have HD := Lib.hid hd2
  have HSO := Lib.hid hso
  obtain ⟨a0, ha0⟩ : ∃ a0 : Nat, a0 = L.len.toNat / 64 := ⟨_, rfl⟩
  have hw0 : IntKind.i64.wrap L.len = L.len := wrapI _ (by omega) (by omega)
  have hlt : L.len.tdiv 64 = a0 := by rw [Int.tdiv_eq_ediv_of_nonneg l0]; omega
  have HW0 := Lib.hid hw0; have HLT := Lib.hid hlt
  clear hl hd hd2 hw0 hlt hso
  go_enter Try.func35, Try.ntmps35
  go_wp2
  have hdiv : L.len / 64 = (a0 : Int) := by omega
  rw [hdiv]
  clear hdiv c0 c1 c2 c3 c4
  obtain ⟨N, hN⟩ : ∃ N, N = upTo L.st.length := ⟨_, rfl⟩
  have htodo : L.todo = secsOf L.st a0 (N - a0) := by unfold Lg.todo; rw [← ha0, ← hN]
  have haN : a0 ≤ N := by rw [ha0, hN]; unfold upTo; omega
  have hNl : ∀ k : Nat, k * 64 < L.st.length ↔ k < N := fun k => by rw [hN]; unfold upTo; omega
  have HT := Lib.hid htodo; have HNL := Lib.hid hNl; have HA0 := Lib.hid ha0; have H0 := Lib.hid h0
  have hq0 : (L.wait == 0) = false := by simpa using h0
  rw [hq0]
  clear htodo hN hNl ha0 h0 hq0
  have hN2 := (HNL.out (N - 1))
  go_loopw [3] (fun i wr => ∃ (k : Nat) (D' : Dsk), a0 ≤ k ∧ k ≤ N ∧ i = .int .i64 k ∧ DiskAt wr d (Ext (fun k => A k ∧ k < w.heap.size) w wr) D' ∧ Chg (fun k => A k ∧ k < w.heap.size) w wr ∧ D'.size = D.size ∧ D'.wait.length = D.wait.length + (k - a0) ∧ D.wrs L.todo = D'.wrs (secsOf L.st k (N - k))) (fun i _ => N - (intOf i).toNat)
  case atStart =>
    refine ⟨a0, D, Nat.le_refl _, haN, rfl, HD.out.mono (fun k hk _ => .inl hk), Chg.refl _ _, rfl, by omega, ?_⟩
    rw [HT.out]
  case round =>
    obtain ⟨k, D', hk0, hkN, rfl, hd', hx, hsz', hwl, hwr⟩ := hrel
    have l1 := hx.heap HL.out.self (fun h => hap _ h.1 HL.out.fl)
    have c3 := cell_of_row wr l 3 _ _ _ l1
    have hk64 := HNL.out k
    have DD := Lib.hid hd'; have XX := Lib.hid hx; have L1 := Lib.hid l1; have WR := Lib.hid hwr; have HSZ := Lib.hid hsz'; have HWL := Lib.hid hwl
    clear hd' hx l1 hwr hsz' hwl
    by_cases hkl : k < N
    · have hk2 := hk64.2 hkl
      obtain ⟨g, rfl, hsb, hcells⟩ := HSO.out (by omega)
      go_wp2_with (refine wpList_alloc_sec rfl rfl ?_)
      obtain ⟨W1, hW1⟩ : ∃ W1, W1 = wr.alloc (.cells (secC sec0).toArray 31) := ⟨_, rfl⟩
      rw [← hW1]
      have g1 : W1.heap[wr.heap.size]? = some (.cells (secC sec0).toArray 31 (0, 0)) := by rw [hW1]; exact hal_new
      have x1 : Chg (fun _ => False) wr W1 := by rw [hW1]; exact (Chg.refl _ _).alloc _
      have z1 : W1.heap.size = wr.heap.size + 1 := by rw [hW1]; simp
      have q1 := x1.heap L1.out (fun h => h)
      have G1 := Lib.hid g1; have X1 := Lib.hid x1; have Q1 := Lib.hid q1
      clear hW1 g1 x1 q1 c3
      have c3 := cell_of_row W1 l 3 _ _ _ Q1.out
      have hwk : IntKind.i64.wrap ((k : Int) * 64) = ((k * 64 : Nat) : Int) := by rw [wrapI _ (by omega) (by omega)]; omega
      have HWK := Lib.hid hwk
      clear hwk
      refine wp_region_lex (fun w' => w'.cell? ⟨l, 3, none⟩ = some (.slice (some ⟨g, 0, none⟩) L.st.length sc)) 8 [8] [0, 1, 2, 3, 4, 5, 6, 7, 8] (by kernel_rfl) (by kernel_rfl) c3 ?_
      clear c3
      try simp only [Act.put, List.setIfInBounds_toArray, List.set_cons_zero, List.set_cons_succ]
      iterate 7
        refine' lex_free (v := _) rfl rfl rfl ?_ (fun _ _ _ h => h) ?_
        rotate_left
        · rintro W hW1
          go_simp
          with_reducible rfl
        try simp only [Act.put, List.setIfInBounds_toArray, List.set_cons_zero, List.set_cons_succ]
      rw [HWK.out]
      have hle1 : k * 64 ≤ sc := by omega
      have hle2 : k * 64 ≤ L.st.length := by omega
      have hle3 : sc ≠ k * 64 := by omega
      have htn : ((k : Int) * 64).toNat = k * 64 := by omega
      have hle0 : (0 : Int) ≤ (k : Int) * 64 ∧ (k : Int) * 64 ≤ L.st.length := by omega
      refine lex_free (v := .slice (some ⟨g, k * 64, none⟩) (L.st.length - k * 64) (sc - k * 64)) rfl rfl rfl (fun W hW1 => by go_simp) (fun _ _ _ h => h) ?_
      try simp only [Act.put, List.setIfInBounds_toArray, List.set_cons_zero, List.set_cons_succ]
      have hgl : ∀ j, (hj : j < L.st.length) → W1.drew.cell? ⟨g, j, none⟩ = some (.int .u8 L.st[j]) := fun j hj => by
        have h1 := hcells j hj
        have h2 := World.block_lt_of_cell? w _ h1
        refine (cell_of_heap ((X1.out.keep g (Nat.lt_of_lt_of_le h2 XX.out.size) (fun h => h)).trans (XX.out.keep g h2 (fun h => hap _ h.1 (HL.out.fs g rfl))))).trans h1
      refine lex_op rfl rfl rfl (fun K hK => ?_)
      refine wp_copy_sec _ _ rfl wr.heap.size 64 rfl G1.out (some ⟨g, k * 64, none⟩) (L.st.length - k * 64) (sc - k * 64) rfl ((L.st.drop (k * 64)).take 64) (by rw [List.length_take, List.length_drop, Nat.min_comm]) (fun h => by cases h) (fun ad had j hj => ?_) (fun w5 g5 x5 => ?_)
      · obtain rfl := Option.some.inj had
        rw [List.length_take, List.length_drop] at hj
        rw [Addr.add_mid, List.getElem_take, List.getElem_drop]
        exact hgl _ (by omega)
      have G5 := Lib.hid (show w5.heap[wr.heap.size]? = some (.cells (secC (secAt L.st k)).toArray 31 (0, 0)) from g5)
      have q5 := x5.heap (show W1.drew.heap[l]? = _ from Q1.out) (fun h => by have := lt_of_heap L1.out; omega)
      have x05 : Chg (fun _ => False) wr w5 := X1.out.drew.trans x5 (fun k hk => .inr (by omega))
      have Q5 := Lib.hid q5; have X5 := Lib.hid x05
      refine hK _ _ (fun h => absurd rfl h) ?_
      clear hK K
      try simp only [Act.put, List.setIfInBounds_toArray, List.set_cons_zero, List.set_cons_succ]
      clear g5 q5 x5 x05 hgl
      refine lex_nil ?_
      go_wp2_with fail
      have hsl : (secC (secAt L.st k)).length = 64 := by simp [secAt_len]
      have hi64 : (Try.prog.info? 31).map (·.size) = some (secC (secAt L.st k)).length := by rw [hsl]; exact info_sec
      have HI := Lib.hid hi64
      clear hi64 hsl
      have q1 := cell_of_row w5 l 0 _ _ _ Q5.out
      have q3 := range_block G5.out
      have hwk2 : IntKind.i64.wrap ((k : Int) + 2) = (k : Int) + 2 := wrapI _ (by omega) (by omega)
      have HWK2 := Lib.hid hwk2
      clear hwk2
      refine wp_region_lex (fun w' => w'.cell? ⟨l, 0, none⟩ = some (.pointer (some ⟨d, 0, none⟩)) ∧ w'.rangeAt wr.heap.size 0 (secC (secAt L.st k))) 99 [7] [0, 1, 2, 3, 4, 5, 6, 7, 8] (by kernel_rfl) (by kernel_rfl) ⟨q1, q3⟩ ?_
      clear q1 q3
      iterate 6
        refine' lex_free (v := _) rfl rfl rfl ?_ (fun _ _ _ h => h) ?_
        rotate_left
        · rintro W ⟨hW1, _⟩
          go_simp
          with_reducible rfl
        try simp only [Act.put, List.setIfInBounds_toArray, List.set_cons_zero, List.set_cons_succ]
      refine lex_free (v := .agg (secC (secAt L.st k)).toArray) rfl rfl rfl (fun W hW => exec_load_mid rfl rfl hW.2 Try.underlying31 rfl HI.out) (fun _ _ _ h => h) ?_
      try simp only [Act.put, List.setIfInBounds_toArray, List.set_cons_zero, List.set_cons_succ]
      rw [HWK2.out]
      refine lex_op rfl rfl rfl (fun K hK => ?_)
      go_simp
      refine (write_any d _ D' ((k : Int) + 2) (secAt L.st k) w5.drew (DD.out.chg (X5.out.drew) (fun _ _ h => h)) (secAt_len _ _) (by have := HWL.out; omega)).mono ?_
      rintro e w6 ⟨rfl, d6, x6⟩
      have nA : ∀ x, Ext (fun k => A k ∧ k < w.heap.size) w wr x → x < wr.heap.size ∧ (F x → w.heap.size ≤ x) := fun x hx => by
        rcases hx with h | h
        · exact ⟨by have := XX.out.size; omega, fun hf => absurd hf (hap _ h.1)⟩
        · exact ⟨h.2, fun _ => h.1⟩
      have l6 := x6.heap (show w5.drew.heap[l]? = _ from Q5.out) (fun h => by have := (nA l h).2 HL.out.fl; omega)
      have g6 := x6.heap (show w5.drew.heap[wr.heap.size]? = _ from G5.out) (fun h => by have := (nA _ h).1; omega)
      have x06 : Chg (fun k => A k ∧ k < w.heap.size) w w6 := XX.out.trans ((X5.out.drew.mono (fun _ h => h.elim)).trans x6 (F := Ext (fun k => A k ∧ k < w.heap.size) w wr) (fun _ h => .inl h)) (fun k h => by
        rcases h with h | h
        · exact .inl h
        · exact .inr h.1)
      have d06 := d6.mono (G := Ext (fun k => A k ∧ k < w.heap.size) w w6) (fun k hk hl => by
        rcases hk with h | h
        · rcases h with h | h
          · exact .inl h
          · exact .inr ⟨h.1, hl⟩
        · have : w5.heap.size ≤ k := h.1
          have := X5.out.size; have := XX.out.size
          exact .inr ⟨by omega, hl⟩)
      have L6 := Lib.hid l6; have X6 := Lib.hid x06; have D6 := Lib.hid d06
      refine hK _ _ (fun _ => ⟨cell_of_row w6 l 0 _ _ _ L6.out, range_block g6⟩) ?_
      clear hK K
      try simp only [Act.put, List.setIfInBounds_toArray, List.set_cons_zero, List.set_cons_succ]
      clear l6 g6 x6 d6 x06 d06
      iterate 1
        refine' lex_free (v := _) rfl rfl rfl ?_ (fun _ _ _ h => h) ?_
        rotate_left
        · rintro W ⟨hW1, _⟩
          go_simp
          with_reducible rfl
        try simp only [Act.put, List.setIfInBounds_toArray, List.set_cons_zero, List.set_cons_succ]
      refine lex_nil ?_
      cases hdn : D'.down with
      | true =>
        have he : errOf D'.size true ((k : Int) + 2) = 24 := by have := HSZ.out; unfold errOf; rw [if_neg (by omega)]; rfl
        have hw : D'.writeR ((k : Int) + 2) (secAt L.st k) = D' := by unfold Dsk.writeR; rw [hdn, he, if_neg (by decide)]
        rw [hw] at D6
        have hfl : flushR D L = (24, D', L) := by
          have e : D.wrs L.todo = (D', false) := by
            rw [WR.out, show N - k = (N - (k + 1)) + 1 by omega]
            unfold secsOf Dsk.wrs
            rw [if_pos hdn]
          unfold flushR
          rw [if_neg H0.out, e]
          rfl
        have HS := Lib.hid hfl
        rw [he]
        clear hw he hfl
        go_wp2
        go_ret
        rw [HS.out]
        exact ⟨rfl, D6.out.mono (fun k hk _ => hk.imp And.left id), ⟨_, HL.out.chg X6.out (fun k hk ha => hap k ha.1 hk)⟩, X6.out.mono (fun k hk => .inl (.inl hk.1))⟩
      | false =>
        have he : errOf D'.size false ((k : Int) + 2) = 0 := by have := HSZ.out; exact errOf_in (by omega) (by omega)
        have hw : D'.writeR ((k : Int) + 2) (secAt L.st k) = D'.write ((k : Int) + 2) (secAt L.st k) := by unfold Dsk.writeR; rw [hdn, he, if_pos rfl]
        rw [hw] at D6
        rw [he]
        have hws := write_size D' ((k : Int) + 2) (secAt L.st k)
        have e : D.wrs L.todo = (D'.write ((k : Int) + 2) (secAt L.st k)).wrs (secsOf L.st (k + 1) (N - (k + 1))) := by
          rw [WR.out, show N - k = (N - (k + 1)) + 1 by omega]
          conv => lhs; unfold secsOf Dsk.wrs
          rw [if_neg (by rw [hdn]; decide)]
        have E := Lib.hid e; have WS := Lib.hid hws
        clear hw he e hws
        go_wp2
        go_roundw
        case rel =>
          refine ⟨k + 1, _, by omega, by omega, by go_num, D6.out, X6.out, by rw [WS.out.1]; exact HSZ.out, ?_, E.out⟩
          rw [WS.out.2, List.length_append, List.length_singleton]; have := HWL.out; omega
        case measure => simp [intOf]; omega
    · obtain rfl : k = N := by omega
      have l0' := cell_of_row wr l 0 _ _ _ L1.out
      have hT : D.wrs L.todo = (D', true) := by
        rw [WR.out, Nat.sub_self]
        rfl
      have HT2 := Lib.hid hT
      clear hT
      go_wp2_with fail
      refine (sync_any d _ D' wr DD.out (by have := HWL.out; omega)).mono ?_
      rintro e w7 ⟨rfl, d7, x7⟩
      have l7 := x7.heap L1.out (fun h => by
        rcases h with h | h
        · exact hap _ h.1 HL.out.fl
        · have := h.1; omega)
      have x07 : Chg (fun k => A k ∧ k < w.heap.size) w w7 := XX.out.trans x7 (fun k h => by
        rcases h with h | h
        · exact .inl h
        · exact .inr h.1)
      have d07 := d7.mono (G := Ext (fun k => A k ∧ k < w.heap.size) w w7) (fun k hk hl => by
        rcases hk with h | h
        · rcases h with h | h
          · exact .inl h
          · exact .inr ⟨h.1, hl⟩
        · have := XX.out.size; exact .inr ⟨by omega, hl⟩)
      have L7 := Lib.hid l7; have X7 := Lib.hid x07; have D7 := Lib.hid d07
      clear d7 x7 l7 x07 d07
      cases hd1 : D'.down with
      | true =>
        simp only [if_true]
        rw [hd1] at D7
        have hfl : flushR D L = (24, D', L) := by
          unfold flushR
          rw [if_neg H0.out, HT2.out, if_neg (by simp), if_pos hd1]
        have HS := Lib.hid hfl
        clear hfl
        go_wp2
        go_ret
        rw [HS.out]
        exact ⟨rfl, D7.out.mono (fun k hk _ => hk.imp And.left id), ⟨_, HL.out.chg X7.out (fun k hk ha => hap k ha.1 hk)⟩, X7.out.mono (fun k hk => .inl (.inl hk.1))⟩
      | false =>
        simp only [Bool.false_eq_true, if_false]
        rw [hd1] at D7
        simp only [Bool.false_eq_true, if_false] at D7
        have hfl : flushR D L = sealR D'.sync L L.st.length := by
          unfold flushR
          rw [if_neg H0.out, HT2.out, if_neg (by simp), if_neg (by rw [hd1]; decide)]
        have HS := Lib.hid hfl
        have hsy : D'.sync.size = D'.size ∧ D'.sync.wait = [] := by
          unfold Dsk.sync Dsk.change
          split <;> exact ⟨rfl, rfl⟩
        have hl7 : LogAt w7 l d (fun k => F k ∧ k < w.heap.size) L := (LogAt.mono ⟨_, HL.out⟩ (fun k hk hl => ⟨hk, hl⟩)).chg X7.out (fun k hk ha => hap k ha.1 hk.1)
        have HL7 := Lib.hid hl7; have HSY := Lib.hid hsy
        have m3 := cell_of_row w7 l 3 _ _ _ L7.out
        clear hfl hl7 hsy c3 l0'
        go_wp2_with fail
        refine (seal_any l d _ _ D'.sync L w7 L.st.length D7.out HL7.out (fun k hk hf => ?_) (Nat.le_refl _) (by rw [HSY.out.1, HSZ.out]; omega) (by rw [HSY.out.2]; decide)).mono ?_
        · rcases hk with h | h
          · exact hap k h.1 hf.1
          · have := h.1; have := hf.2; omega
        rintro e w8 ⟨rfl, d8, l8, x8⟩
        have D8 := Lib.hid d8; have L8 := Lib.hid l8; have X8 := Lib.hid x8
        clear d8 l8 x8
        go_wp2
        go_ret
        rw [HS.out]
        refine ⟨rfl, D8.out.mono (fun k hk hl => ?_), L8.out.mono (fun k hk _ => hk.1), (X7.out.mono (fun k hk => .inl (.inl hk.1))).trans X8.out (fun k hk => ?_)⟩
        · rcases hk with h | h
          · rcases h with h | h
            · exact .inl h.1
            · exact .inr ⟨h.1, hl⟩
          · have := X7.out.size; exact .inr ⟨by omega, hl⟩
        · rcases hk with h | h
          · rcases h with h | h
            · exact .inl (.inl h.1)
            · exact .inr h.1
          · exact .inl (.inr h.1)
theorem flush_any (l d : Nat) (A F : Nat → Prop) (D : Dsk) (L : Lg) (w : World) (hd : DiskAt w d A D) (hl : LogAt w l d F L) (hap : ∀ k, A k → ¬ F k) (hsz : 3 ≤ D.size) (hroom : (L.st.length : Int) ≤ (D.size - 2) * 64) (hlen : D.wait.length < 2800000000000) :
    Calls Try.prog 35 #[.pointer (some ⟨l, 0, none⟩)] w fun e w' => e = .returned (.int .i64 (flushR D L).1) ∧ DiskAt w' d (Ext A w w') (flushR D L).2.1 ∧ LogAt w' l d F (flushR D L).2.2 ∧ Chg (fun k => A k ∨ F k) w w' := by
  by_cases h0 : L.wait = 0
  · refine (flush_idle l d F L w hl h0).mono ?_
    rintro e w' ⟨rfl, rfl⟩
    have : flushR D L = (0, D, L) := by unfold flushR; rw [if_pos h0]
    rw [this]
    exact ⟨rfl, hd.mono (fun k hk _ => .inl hk), hl, Chg.refl _ _⟩
  · exact flush_work l d A F D L w hd hl hap hsz hroom hlen h0
end Go.Proofs.Ytihpobpkhhkejaa
