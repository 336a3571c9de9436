/-
  The document's log: Flush. Conditions: a log over a disk stands at the address, its bytes fit the disk.
-/
import Derived.Test.YtihpobpkhhkejaaWRefC
import Derived.Test.YtihpobpkhhkejaaWFlush
set_option autoImplicit false
namespace Go.Proofs.Ytihpobpkhhkejaa
open Go Go.RowKit

/-- a disk and a log behind a call, each in its own blocks -/
def RBoth (w w' : World) (m r : Nat) (A F : Nat → Prop) (D : Dsk) (L : Lg) : Prop :=
  ∃ A' F' : Nat → Prop, RefAt w' r A' D ∧ RLogAt w' m r F' L ∧ (∀ k, A' k → Ext A w w' k) ∧ (∀ k, F' k → Ext F w w' k) ∧ (∀ k, A' k → ¬ F' k) ∧ Chg (fun k => A k ∨ F k) w w'
theorem rflush_idle (m r : Nat) (F : Nat → Prop) (L : Lg) (w : World) (hl : RLogAt w m r F L) (h0 : L.wait = 0) : Calls Try.prog 40 #[.pointer (some ⟨m, 0, none⟩)] w fun e w' => e = .returned (.int .i64 0) ∧ w = w' := by
  obtain ⟨tv, wv, h⟩ := hl
  obtain ⟨c0, c1, c2, c3, c4, c5⟩ := h.cells
  rw [h0] at c4
  clear h
  go_enter Try.func40, Try.ntmps40
  go_wp2
  go_ret
  exact ⟨rfl, rfl⟩
set_option maxRecDepth 100000 in
set_option maxHeartbeats 2000000 in
theorem rflush_work (m r : Nat) (A F : Nat → Prop) (D : Dsk) (L : Lg) (w : World) (hd : RefAt w r A D) (hl : RLogAt w m r F L) (hap : ∀ k, A k → ¬ F k) (hsz : 3 ≤ D.size) (hroom : (L.st.length : Int) ≤ (D.size - 2) * 64) (hlen : D.wait.length < 2800000000000) (h0 : L.wait ≠ 0) :
    Calls Try.prog 40 #[.pointer (some ⟨m, 0, none⟩)] w fun e w' => e = .returned (.int .i64 (flushR D L).1) ∧ RBoth w w' m r A F (flushR D L).2.1 (flushR D L).2.2 := by
  obtain ⟨tv, wv, hl⟩ := hl
  obtain ⟨to_, tc, rfl, _⟩ := hl.there.form
  obtain ⟨wo, wc, rfl, _⟩ := hl.wait.form
  obtain ⟨c0, c1, c2, c3, c4, c5⟩ := hl.cells
  obtain ⟨_, d1, d2⟩ := hd.size_
  have s1 := hl.ok.s1
  have l0 := hl.ok.l0
  have l1 := hl.ok.l1
  have w0 := hl.ok.w0
  obtain ⟨a, ha⟩ : ∃ a, a = (L.st.take L.len.toNat).length := ⟨_, rfl⟩
  obtain ⟨b, hb⟩ : ∃ b, b = (L.st.drop L.len.toNat).length := ⟨_, rfl⟩
  have hab : a + b = L.st.length ∧ (a : Int) = L.len := by rw [ha, hb, List.length_take, List.length_drop]; omega
  have hself : w.heap[m]? = some (.cells #[.pointer (some ⟨r, 0, none⟩), .int .u64 L.cnt, .slice to_ a tc, .slice wo b wc, .int .i64 L.wait] 86 (0, 0)) := by rw [ha, hb]; exact hl.self
  have hst : L.st.take L.len.toNat ++ L.st.drop L.len.toNat = L.st := List.take_append_drop _ _
  have hT := hl.there
  have hW := hl.wait
  rw [← ha] at c2 hT
  rw [← hb] at c3 hW
  have hd2 := hd.mono (G := fun k => A k ∧ k < w.heap.size) (fun k hk hl => ⟨hk, hl⟩)
  have HD := Lib.hid hd2
  have HL := Lib.hid hl; have HA := Lib.hid ha; have HB := Lib.hid hb; have HS := Lib.hid hself; have HST := Lib.hid hst; have HT := Lib.hid hT; have HW := Lib.hid hW; have HAB := Lib.hid hab
  have hab1 : a ≤ 4194304 ∧ b ≤ 4194304 := by omega
  obtain ⟨a0, ha0⟩ : ∃ a0 : Nat, a0 = L.len.toNat / 64 := ⟨_, rfl⟩
  have hlt : (a : Int).tdiv 64 = a0 := by rw [Int.tdiv_eq_ediv_of_nonneg (by omega)]; omega
  have HLT := Lib.hid hlt
  have HA0 := Lib.hid ha0
  have hq0 : (L.wait == 0) = false := by simpa using h0
  have HQ0 := Lib.hid hq0; have H0 := Lib.hid h0
  clear hl hd hd2 ha hb hself hst hT hW hab hlt ha0 hq0
  go_enter Try.func40, Try.ntmps40
  go_wp2_with (at_builtin; refine wpList_byts rfl _ _ rfl 0 (.slice none 0 0) [] rfl (Byts.nil _ _) to_ a tc (L.st.take L.len.toNat) HA.out rfl HT.out.get.2.1 HT.out.get.2.2 (by rw [← HA.out]; simp; omega) (Nat.zero_le _) ?_)
  intro v1 w1 y1 x1 n1
  have hn1 : ∀ g, v1.ownBlock = some g → g = w.heap.size := fun g hg => by
    rcases n1 g hg with h | h
    · simp [Value.ownBlock] at h
    · exact h
  have x1' : Chg (fun _ => False) w w1 := x1.mono (fun k hk => by simp [Value.ownBlock] at hk)
  have l1 := x1'.heap HS.out (fun h => h)
  obtain ⟨so1, sc1, he1, _⟩ := y1.form
  rw [← HA.out] at he1
  subst he1
  have L1 := Lib.hid l1; have X1 := Lib.hid x1'; have N1 := Lib.hid hn1; have Y1 := Lib.hid y1
  clear c0 c1 c2 c3 c4
  have c2 := cell_of_row w1 m 2 _ _ _ l1
  have c3 := cell_of_row w1 m 3 _ _ _ l1
  clear l1 x1 x1' hn1 n1 y1
  have hwb := HW.out.quiet X1.out
  have WB := Lib.hid hwb
  clear hwb
  go_wp2_with (at_builtin; refine wpList_byts rfl _ _ rfl 0 (.slice so1 a sc1) _ rfl Y1.out wo b wc (L.st.drop L.len.toNat) HB.out rfl WB.out.get.2.1 WB.out.get.2.2 (by rw [← HA.out, ← HB.out]; omega) (Nat.zero_le _) ?_)
  intro v2 w2 y2 x2 n2
  have w1n := HL.out.ok.w1
  have hwz : L.wait ≠ 0 := H0.out
  have hpos : 0 < L.st.length := by omega
  obtain ⟨g2, sc2, hv2, hcells, hcap2⟩ : ∃ g sc, v2 = .slice (some ⟨g, 0, none⟩) L.st.length sc ∧ (∀ j, (hj : j < L.st.length) → w2.cell? ⟨g, j, none⟩ = some (.int .u8 L.st[j])) ∧ L.st.length ≤ sc := by
    obtain ⟨ao, sc, he, hf⟩ := y2.form
    obtain ⟨g, rfl, _, hc⟩ := hf hpos
    subst he
    exact ⟨g, sc, rfl, hc, y2.capLe.1⟩
  subst hv2
  have hg2 : w.heap.size ≤ g2 := by
    have hs := X1.out.size
    rcases n2 g2 rfl with h | h
    · have := N1.out g2 h; omega
    · omega
  have hg2l : g2 < w2.heap.size := y2.lt rfl
  have x02 : Chg (fun _ => False) w w2 := X1.out.trans x2 (fun g h => .inr (by have := N1.out g h; omega))
  have l2 := x02.heap HS.out (fun h => h)
  have L2 := Lib.hid l2; have X2 := Lib.hid x02; have Y2 := Lib.hid y2; have HC := Lib.hid hcells
  have hd2 := HD.out.chg x02 (fun _ _ h => h)
  have HD2 := Lib.hid hd2
  have RL2 := Lib.hid (HL.out.chg x02 (fun _ _ h => h))
  have hs2 := x02.size
  have c22 := cell_of_row w2 m 2 _ _ _ l2
  have HAP := Lib.hid hap
  clear l2 x02 x2 y2 n2 hcells hd2 c2 c3 hwz hap w1n
  go_wp2_with fail
  obtain ⟨N, hN⟩ : ∃ N, N = upTo L.st.length := ⟨_, rfl⟩
  have htodo : L.todo = secsOf L.st a0 (N - a0) := by unfold Lg.todo; rw [← HA0.out, ← hN]
  have haN : a0 ≤ N := by have := HAB.out; rw [HA0.out, hN]; unfold upTo; omega
  have hNl : ∀ k : Nat, 64 * k < L.st.length ↔ k < N := fun k => by rw [hN]; unfold upTo; omega
  have hNb : N ≤ 65537 := by rw [hN]; unfold upTo; omega
  have HTD := Lib.hid htodo; have HNL := Lib.hid hNl
  clear htodo hN hNl
  have hfin : ∀ (w' : World) (D' : Dsk), RefAt w' r (Ext (fun k => A k ∧ k < w.heap.size) w2 w') D' → Chg (fun k => A k ∧ k < w.heap.size) w2 w' → RBoth w w' m r A F D' L := fun w' D' hd hx => by
    have x0' : Chg (fun k => A k ∧ k < w.heap.size) w w' := (X2.out.mono (fun k h => h.elim)).trans hx (fun k h => .inl h)
    refine ⟨Ext (fun k => A k ∧ k < w.heap.size) w2 w', fun k => F k ∧ k < w.heap.size, hd, ?_, fun k hk => ?_, fun k hk => .inl hk.1, fun k hk hf => ?_, x0'.mono (fun k hk => .inl (.inl hk.1))⟩
    · exact (RLogAt.mono ⟨_, _, HL.out⟩ (fun k hk hl => ⟨hk, hl⟩)).chg x0' (fun k hk ha => HAP.out k ha.1 hk.1)
    · rcases hk with h | h
      · exact .inl h.1
      · exact .inr ⟨by have := h.1; omega, h.2⟩
    · rcases hk with h | h
      · exact HAP.out k h.1 hf.1
      · have := h.1; have := hf.2; omega
  have FIN := Lib.hid hfin
  clear hfin
  have hdiv : (a : Int) / 64 = (a0 : Int) := by have := HA0.out; have := HAB.out; omega
  rw [hdiv]
  clear hdiv c22 c5
  go_loopw [4] (fun i wr => ∃ (k : Nat) (D' : Dsk), a0 ≤ k ∧ k ≤ N ∧ i = .int .i64 k ∧ RefAt wr r (Ext (fun k => A k ∧ k < w.heap.size) w2 wr) D' ∧ Chg (fun k => A k ∧ k < w.heap.size) w2 wr ∧ D'.size = D.size ∧ D'.wait.length = D.wait.length + (k - a0) ∧ D.wrs L.todo = D'.wrs (secsOf L.st k (N - k))) (fun i _ => N - (intOf i).toNat)
  case atStart =>
    refine ⟨a0, D, Nat.le_refl _, haN, rfl, HD2.out.mono (fun k hk _ => .inl hk), Chg.refl _ _, rfl, by omega, ?_⟩
    rw [HTD.out]
  case round =>
    obtain ⟨k, D', hk0, hkN, rfl, hd', hx, hsz', hwl, hwr⟩ := hrel
    obtain ⟨w3, h3⟩ : ∃ x, x = wr := ⟨_, rfl⟩
    subst h3
    have l1 := hx.heap L2.out (fun h => HAP.out _ h.1 HL.out.fm)
    have hk64 := HNL.out k
    have DD := Lib.hid hd'; have XX := Lib.hid hx; have L1 := Lib.hid l1; have WR := Lib.hid hwr; have HSZ := Lib.hid hsz'; have HWL := Lib.hid hwl
    have hcells : ∀ j, (hj : j < L.st.length) → w3.cell? ⟨g2, j, none⟩ = some (.int .u8 L.st[j]) := fun j hj => (cell_of_heap (hx.keep g2 hg2l (fun h => by omega))).trans (HC.out j hj)
    have HCR := Lib.hid hcells
    clear hd' hx l1 hwr hsz' hwl hcells
    by_cases hkl : k < N
    · have hk2 := hk64.2 hkl
      obtain ⟨ck, hck⟩ : ∃ ck, ck = (L.st.drop (k * 64)).take 64 := ⟨_, rfl⟩
      have hcl : ck.length ≤ 64 ∧ ∀ i : Nat, i < ck.length ↔ i < 64 ∧ 64 * k + i < L.st.length := by
        rw [hck, List.length_take, List.length_drop]
        exact ⟨by omega, fun i => by omega⟩
      have CK := Lib.hid hck; have HCL := Lib.hid hcl.2
      have hcl64 := hcl.1
      clear hck hcl
      go_wp2_with (refine wpList_alloc_sec rfl rfl ?_)
      obtain ⟨W1, hW1⟩ : ∃ W1, W1 = w3.alloc (.cells (secC sec0).toArray 31) := ⟨_, rfl⟩
      rw [← hW1]
      have g1 : W1.heap[w3.heap.size]? = some (.cells (secC sec0).toArray 31 (0, 0)) := by rw [hW1]; exact hal_new
      have x1 : Chg (fun _ => False) w3 W1 := by rw [hW1]; exact (Chg.refl _ _).alloc _
      have z1 : W1.heap.size = w3.heap.size + 1 := by rw [hW1]; simp
      have G1 := Lib.hid g1; have X1 := Lib.hid x1
      clear hW1 g1 x1
      go_wp2_with fail
      go_loopw [6] (fun i wr2 => ∃ j : Nat, j ≤ ck.length ∧ i = .int .i64 j ∧ wr2.heap[w3.heap.size]? = some (.cells (secC (padTo (ck.take j))).toArray 31 (0, 0)) ∧ Chg (fun x => x = w3.heap.size) W1 wr2) (fun i _ => 64 - (intOf i).toNat)
      case atStart => exact ⟨0, Nat.zero_le _, rfl, G1.out, Chg.refl _ _⟩
      case round =>
        obtain ⟨j, hj, rfl, hg, hx⟩ := hrel
        have GG := Lib.hid hg; have XX2 := Lib.hid hx
        clear hg hx
        by_cases hjl : j < ck.length
        · have hj2 := (HCL.out j).1 hjl
          have hgw : g2 < w3.heap.size := by have := XX.out.size; omega
          have hcb : wr.cell? ⟨g2, 64 * k + j, none⟩ = some (.int .u8 ck[j]) := by
            have h1 := HCR.out (64 * k + j) hj2.2
            have h2 : ck[j] = L.st[64 * k + j] := by
              have hb : ck[j]? = some (L.st[64 * k + j]) := by
                rw [CK.out, List.getElem?_take_of_lt (by omega), List.getElem?_drop, Nat.mul_comm k 64]
                exact List.getElem?_eq_getElem hj2.2
              rw [List.getElem?_eq_getElem hjl] at hb
              exact Option.some.inj hb
            rw [h2]
            exact (cell_of_heap ((XX2.out.keep g2 (by omega) (fun h => by omega)).trans (X1.out.keep g2 hgw (fun h => h)))).trans h1
          have htl : (ck.take j).length = j := by rw [List.length_take]; omega
          have hcs : wr.cell? ⟨w3.heap.size, j, none⟩ = some (.int .u8 0) := by
            rw [cell_of_row wr _ j _ _ _ GG.out]
            have := pad_nth (ck.take j) j (by omega) (by omega)
            simpa using this
          have hfs : wr.frozen? ⟨w3.heap.size, j, none⟩ = false := frozen_of_row wr _ j _ _ GG.out
          have hps := pad_set (ck.take j) ck[j] (by omega)
          rw [htl, ← List.take_succ_eq_append_getElem (by omega)] at hps
          have HPS := Lib.hid hps
          clear hps
          generalize ck[j] = y at *
          go_wp2
          go_roundw
          case rel =>
            refine ⟨j + 1, by omega, by go_num, ?_, XX2.out.setCell (p := ⟨w3.heap.size, j, none⟩) (.inl rfl) _⟩
            rw [hset_eq GG.out, HPS.out]
          case measure => simp [intOf]; omega
        · have hnot : j = 64 ∨ (j < 64 ∧ L.st.length ≤ 64 * k + j) := by
            have := HCL.out j
            have h64 := hcl64
            by_cases h : j < 64
            · exact .inr ⟨h, by omega⟩
            · exact .inl (by omega)
          have g5 : wr.heap[w3.heap.size]? = some (.cells (secC (secAt L.st k)).toArray 31 (0, 0)) := by
            have h1 := GG.out
            rw [List.take_of_length_le (by omega), show padTo ck = secAt L.st k from by rw [CK.out]; rfl] at h1
            exact h1
          have x05 : Chg (fun _ => False) w3 wr := X1.out.trans XX2.out (fun g h => .inr (by omega))
          have q5 := x05.heap L1.out (fun h => h)
          have G5 := Lib.hid g5; have X5 := Lib.hid x05; have Q5 := Lib.hid q5
          clear g5 x05 q5
          have hsl : (secC (secAt L.st k)).length = 64 := by simp [secAt_len]
          have hi64 : (Try.prog.info? 31).map (·.size) = some (secC (secAt L.st k)).length := by rw [hsl]; exact info_sec
          have HI := Lib.hid hi64
          have hwk2 : IntKind.i64.wrap (2 + (k : Int)) = (k : Int) + 2 := by rw [wrapI _ (by omega) (by omega)]; omega
          have HWK2 := Lib.hid hwk2
          clear hi64 hsl hwk2
          have nA : ∀ x, Ext (fun k => A k ∧ k < w.heap.size) w2 w3 x → x < w3.heap.size ∧ x ≠ m := fun x hx => by
            have hm := lt_of_heap HL.out.self
            rcases hx with h | h
            · exact ⟨by have := XX.out.size; omega, fun e => by subst e; exact HAP.out _ h.1 HL.out.fm⟩
            · exact ⟨h.2, by have := h.1; omega⟩
          have NA := Lib.hid nA
          clear nA
          have q1 := cell_of_row wr m 0 _ _ _ Q5.out
          have q3 := range_block G5.out
          have Q1 := Lib.hid q1; have Q3 := Lib.hid q3
          clear q1 q3
          rcases hnot with hnot | ⟨hnot, hnot2⟩
          all_goals
            go_wp2_with fail
            refine wp_region_lex (fun w' => w'.cell? ⟨m, 0, none⟩ = some (.pointer (some ⟨r, 0, none⟩)) ∧ w'.rangeAt w3.heap.size 0 (secC (secAt L.st k))) 99 [7] [0, 1, 2, 3, 4, 5, 6, 7, 8] (by kernel_rfl) (by kernel_rfl) ⟨Q1.out, Q3.out⟩ ?_
            iterate 6
              refine' lex_free (v := _) rfl rfl rfl ?_ (fun _ _ _ h => h) ?_
              rotate_left
              · rintro W ⟨hW1, _⟩
                go_simp
                with_reducible rfl
              try simp only [Act.put, List.setIfInBounds_toArray, List.set_cons_zero, List.set_cons_succ]
            refine lex_free (v := .agg (secC (secAt L.st k)).toArray) rfl rfl rfl (fun W hW => exec_load_mid rfl rfl hW.2 Try.underlying31 rfl HI.out) (fun _ _ _ h => h) ?_
            try simp only [Act.put, List.setIfInBounds_toArray, List.set_cons_zero, List.set_cons_succ]
            rw [HWK2.out]
            refine lex_op rfl rfl rfl (fun K hK => ?_)
            go_simp
            refine (rwrite_any r _ D' ((k : Int) + 2) (secAt L.st k) wr.drew (DD.out.chg (X5.out.drew) (fun _ _ h => h)) (secAt_len _ _) (by have := HWL.out; omega)).mono ?_
            rintro e w6 ⟨rfl, d6, x6⟩
            have l6 := x6.heap (show wr.drew.heap[m]? = _ from Q5.out) (fun h => (NA.out m h).2 rfl)
            have g6 := x6.heap (show wr.drew.heap[w3.heap.size]? = _ from G5.out) (fun h => by have := (NA.out _ h).1; omega)
            have x06 : Chg (fun k => A k ∧ k < w.heap.size) w2 w6 := XX.out.trans ((X5.out.drew.mono (fun _ h => h.elim)).trans x6 (F := Ext (fun k => A k ∧ k < w.heap.size) w2 w3) (fun _ h => .inl h)) (fun k h => by
              rcases h with h | h
              · exact .inl h
              · exact .inr h.1)
            have d06 := d6.mono (G := Ext (fun k => A k ∧ k < w.heap.size) w2 w6) (fun k hk hl => by
              rcases hk with h | h
              · rcases h with h | h
                · exact .inl h
                · exact .inr ⟨h.1, hl⟩
              · have : wr.heap.size ≤ k := h.1
                have := X5.out.size; have := XX.out.size
                exact .inr ⟨by omega, hl⟩)
            have L6 := Lib.hid l6; have X6 := Lib.hid x06; have D6 := Lib.hid d06
            refine hK _ _ (fun _ => ⟨cell_of_row w6 m 0 _ _ _ L6.out, range_block g6⟩) ?_
            clear hK K
            try simp only [Act.put, List.setIfInBounds_toArray, List.set_cons_zero, List.set_cons_succ]
            clear l6 g6 x6 d6 x06 d06
            iterate 1
              refine' lex_free (v := _) rfl rfl rfl ?_ (fun _ _ _ h => h) ?_
              rotate_left
              · rintro W ⟨hW1, _⟩
                go_simp
                with_reducible rfl
              try simp only [Act.put, List.setIfInBounds_toArray, List.set_cons_zero, List.set_cons_succ]
            refine lex_nil ?_
            cases hdn : D'.down with
            | true =>
              have he : errOf D'.size true ((k : Int) + 2) = 24 := by have := HSZ.out; unfold errOf; rw [if_neg (by omega)]; rfl
              have hw : D'.writeR ((k : Int) + 2) (secAt L.st k) = D' := by unfold Dsk.writeR; rw [hdn, he, if_neg (by decide)]
              rw [hw] at D6
              have hfl : flushR D L = (24, D', L) := by
                have e : D.wrs L.todo = (D', false) := by
                  rw [WR.out, show N - k = (N - (k + 1)) + 1 by omega]
                  unfold secsOf Dsk.wrs
                  rw [if_pos hdn]
                unfold flushR
                rw [if_neg H0.out, e]
                rfl
              have HSF := Lib.hid hfl
              rw [he]
              clear hw he hfl
              go_wp2
              go_ret
              rw [HSF.out]
              exact ⟨rfl, FIN.out w6 D' D6.out X6.out⟩
            | false =>
              have he : errOf D'.size false ((k : Int) + 2) = 0 := by have := HSZ.out; exact errOf_in (by omega) (by omega)
              have hw : D'.writeR ((k : Int) + 2) (secAt L.st k) = D'.write ((k : Int) + 2) (secAt L.st k) := by unfold Dsk.writeR; rw [hdn, he, if_pos rfl]
              rw [hw] at D6
              rw [he]
              have hws := write_size D' ((k : Int) + 2) (secAt L.st k)
              have e : D.wrs L.todo = (D'.write ((k : Int) + 2) (secAt L.st k)).wrs (secsOf L.st (k + 1) (N - (k + 1))) := by
                rw [WR.out, show N - k = (N - (k + 1)) + 1 by omega]
                conv => lhs; unfold secsOf Dsk.wrs
                rw [if_neg (by rw [hdn]; decide)]
              have E := Lib.hid e; have WS := Lib.hid hws
              clear hw he e hws
              go_wp2
              go_roundw
              case rel =>
                refine ⟨k + 1, _, by omega, by omega, by go_num, D6.out, X6.out, by rw [WS.out.1]; exact HSZ.out, ?_, E.out⟩
                rw [WS.out.2, List.length_append, List.length_singleton]; have := HWL.out; omega
              case measure => simp [intOf]; omega
    · have hk3 : L.st.length ≤ 64 * k := by omega
      obtain rfl : k = N := by omega
      have l0' := cell_of_row w3 m 0 _ _ _ L1.out
      have hT : D.wrs L.todo = (D', true) := by
        rw [WR.out, Nat.sub_self]
        rfl
      have HT2 := Lib.hid hT
      clear hT
      go_wp2_with fail
      refine (rsync_any r _ D' w3 DD.out).mono ?_
      rintro e w7 ⟨rfl, d7, x7⟩
      have x07 : Chg (fun k => A k ∧ k < w.heap.size) w2 w7 := XX.out.trans x7 (fun k h => by
        rcases h with h | h
        · exact .inl h
        · exact .inr h.1)
      have d07 := d7.mono (G := Ext (fun k => A k ∧ k < w.heap.size) w2 w7) (fun k hk hl => by
        rcases hk with h | h
        · rcases h with h | h
          · exact .inl h
          · exact .inr ⟨h.1, hl⟩
        · have := XX.out.size; exact .inr ⟨by omega, hl⟩)
      have X7 := Lib.hid x07; have D7 := Lib.hid d07
      have x7s := x07.size
      clear d7 x7 x07 d07
      cases hd1 : D'.down with
      | true =>
        simp only [if_true]
        rw [hd1] at D7
        have hfl : flushR D L = (24, D', L) := by
          unfold flushR
          rw [if_neg H0.out, HT2.out, if_neg (by simp), if_pos hd1]
        have HSF := Lib.hid hfl
        clear hfl
        go_wp2
        go_ret
        rw [HSF.out]
        exact ⟨rfl, FIN.out w7 D' D7.out X7.out⟩
      | false =>
        simp only [Bool.false_eq_true, if_false]
        rw [hd1] at D7
        simp only [Bool.false_eq_true, if_false] at D7
        have hfl : flushR D L = sealR D'.sync L L.st.length := by
          unfold flushR
          rw [if_neg H0.out, HT2.out, if_neg (by simp), if_neg (by rw [hd1]; decide)]
        have HSF := Lib.hid hfl
        have hsy : D'.sync.size = D'.size ∧ D'.sync.wait = [] := by
          unfold Dsk.sync Dsk.change
          split <;> exact ⟨rfl, rfl⟩
        have HSY := Lib.hid hsy
        have hl7 : RLogAt w7 m r (fun k => F k ∧ k < w.heap.size) L := (RLogAt.mono ⟨_, _, HL.out⟩ (fun k hk hl => ⟨hk, hl⟩)).chg ((X2.out.mono (fun k h => h.elim)).trans X7.out (F := fun k => A k ∧ k < w.heap.size) (fun k h => .inl h)) (fun k hk ha => HAP.out k ha.1 hk.1)
        have HL7 := Lib.hid hl7
        have l7 := X7.out.heap L2.out (fun h => HAP.out _ h.1 HL.out.fm)
        have y7 := Y2.out.chg X7.out (fun g hg h => by have : g2 = g := Option.some.inj hg; omega)
        have L7 := Lib.hid l7; have Y7 := Lib.hid y7
        have hs7 := x7s
        clear hfl hl7 hsy l0' l7 y7
        go_wp2_with fail
        refine (rseal_any m r _ _ D'.sync L w7 L.st.length D7.out HL7.out (fun k hk hf => ?_) (by omega) (by rw [HSY.out.1, HSZ.out]; omega) (by rw [HSY.out.2]; decide)).mono ?_
        · rcases hk with h | h
          · exact HAP.out k h.1 hf.1
          · have := h.1; have := hf.2; omega
        rintro e w8 ⟨rfl, d8, l8, x8⟩
        have l8' := x8.heap L7.out (fun h => by
          rcases h with h | h
          · exact HAP.out _ h.1 HL.out.fm
          · have := h.1; have := lt_of_heap HL.out.self; omega)
        have y8 := Y7.out.chg x8 (fun g hg h => by
          have hgg : g2 = g := Option.some.inj hg
          rcases h with h | h
          · have := h.2; omega
          · have := h.1; omega)
        have D8 := Lib.hid d8; have X8 := Lib.hid x8; have Y8 := Lib.hid y8
        have hc := sealR_cases D'.sync L L.st.length
        rw [List.take_length] at hc
        obtain ⟨e1, he1⟩ : ∃ e1, e1 = (sealR D'.sync L L.st.length).1 := ⟨_, rfl⟩
        rw [← he1] at hc
        rw [← he1]
        have HE1 := Lib.hid he1; have HSC := Lib.hid hc
        have hrl8 : RLogIn w8 m r (fun k => (F k ∧ k < w.heap.size) ∨ k = g2) L (.slice to_ (L.st.take L.len.toNat).length tc) (.slice wo (L.st.drop L.len.toNat).length wc) := by
          have h1 := ((HL.out.mono (G := fun k => (F k ∧ k < w.heap.size)) (fun k hk hl => ⟨hk, hl⟩)).chg (X2.out.mono (F := fun _ => False) (fun k h => h.elim)) (fun _ _ h => h)).chg X7.out (fun k hk ha => HAP.out k ha.1 hk.1)
          have h2 := h1.chg x8 (fun k hk h => by
            rcases h with h | h
            · exact HAP.out k h.1 hk.1
            · have := h.1; have := hk.2; omega)
          exact h2.mono (fun k hk _ => .inl hk)
        have RL8 := Lib.hid hrl8
        have xall : Chg (fun k => A k ∨ F k) w w8 := ((X2.out.mono (fun k h => h.elim)).trans (X7.out.mono (fun k hk => .inl (.inl hk.1))) (fun k h => .inl h)).trans x8 (fun k h => by
          rcases h with h | h
          · exact .inl (.inl h.1)
          · exact .inr (by have := h.1; omega))
        have XA := Lib.hid xall
        have hz8 := x8.size
        have hup := up64_wrap L.cnt
        have hul := up64_lt L.cnt
        have UP := Lib.hid hup; have UL := Lib.hid hul
        obtain ⟨c0, c1, c2, c3, c4, c5⟩ := hrl8.cells
        have f := hrl8.free
        clear d8 l8 x8 y8 hc he1 hrl8 xall hup hul l8'
        have hA : ∀ k, Ext (Ext (fun k => A k ∧ k < w.heap.size) w2 w7) w7 w8 k → Ext A w w8 k := fun k hk => by
          rcases hk with (h | h) | h
          · exact .inl h.1
          · exact .inr ⟨by have := h.1; omega, by have := h.2; omega⟩
          · exact .inr ⟨by have := h.1; omega, h.2⟩
        have hF : ∀ k, ((F k ∧ k < w.heap.size) ∨ k = g2) → Ext F w w8 k := fun k hk => by
          rcases hk with h | h
          · exact .inl h.1
          · exact .inr ⟨by omega, by omega⟩
        have hAF : ∀ k, Ext (Ext (fun k => A k ∧ k < w.heap.size) w2 w7) w7 w8 k → ¬ ((F k ∧ k < w.heap.size) ∨ k = g2) := fun k hk hf => by
          rcases hk with (h | h) | h
          · rcases hf with h2 | h2
            · exact HAP.out k h.1 h2.1
            · have := h.2; omega
          · rcases hf with h2 | h2
            · have := h.1; have := h2.2; omega
            · have := h.1; omega
          · rcases hf with h2 | h2
            · have := h.1; have := h2.2; omega
            · have := h.1; omega
        rcases HSC.out with ⟨rfl, h2⟩ | ⟨rfl, h2⟩
        · go_wp2
          go_ret
          rw [HSF.out, ← HE1.out, h2]
          refine ⟨rfl, _, _, D8.out, ⟨_, _, RL8.out⟩, hA, hF, hAF, XA.out⟩
        · go_wp2
          go_ret
          rw [HSF.out, ← HE1.out, h2, UP.out]
          have hh := RL8.out
          have ho := hh.ok
          obtain ⟨y1, y2⟩ := hh.end4 (up64 L.cnt) (.slice (some ⟨g2, 0, none⟩) L.st.length sc2) L.st Y8.out (fun g hg => .inr (Option.some.inj hg).symm) ⟨UL.out.1, UL.out.2, by show (0 : Int) ≤ ((L.st.length : Nat) : Int); omega, Int.le_refl _, ho.s1, ho.by_, by show (0 : Int) ≤ 0; decide, by show 4 * (0 : Int) ≤ _; omega⟩
          have hz9 := y2.size
          refine ⟨rfl, Ext (Ext (fun k => A k ∧ k < w.heap.size) w2 w7) w7 w8, _, D8.out.chg y2 (fun k hk e => ?_), y1, fun k hk => ?_, fun k hk => ?_, hAF, XA.out.trans y2 (fun k hk => by subst hk; exact .inl (.inr HL.out.fm))⟩
          · subst e
            have hm := lt_of_heap HL.out.self
            rcases hA k hk with h | h
            · exact HAP.out _ h HL.out.fm
            · have := h.1; omega
          · exact (hA k hk).imp id (fun h => ⟨h.1, Nat.lt_of_lt_of_le h.2 hz9⟩)
          · exact (hF k hk).imp id (fun h => ⟨h.1, Nat.lt_of_lt_of_le h.2 hz9⟩)
theorem rflush_any (m r : Nat) (A F : Nat → Prop) (D : Dsk) (L : Lg) (w : World) (hd : RefAt w r A D) (hl : RLogAt w m r F L) (hap : ∀ k, A k → ¬ F k) (hsz : 3 ≤ D.size) (hroom : (L.st.length : Int) ≤ (D.size - 2) * 64) (hlen : D.wait.length < 2800000000000) :
    Calls Try.prog 40 #[.pointer (some ⟨m, 0, none⟩)] w fun e w' => e = .returned (.int .i64 (flushR D L).1) ∧ RBoth w w' m r A F (flushR D L).2.1 (flushR D L).2.2 := by
  by_cases h0 : L.wait = 0
  · refine (rflush_idle m r F L w hl h0).mono ?_
    rintro e w' ⟨rfl, rfl⟩
    have : flushR D L = (0, D, L) := by unfold flushR; rw [if_pos h0]
    rw [this]
    exact ⟨rfl, A, F, hd, hl, fun k hk => .inl hk, fun k hk => .inl hk, hap, Chg.refl _ _⟩
  · exact rflush_work m r A F D L w hd hl hap hsz hroom hlen h0
end Go.Proofs.Ytihpobpkhhkejaa
