/-
  The document's log: Append and Reset. Conditions: a log over a disk stands at the address.
-/
import Derived.Test.YtihpobpkhhkejaaWRefB
set_option autoImplicit false
namespace Go.Proofs.Ytihpobpkhhkejaa
open Go Go.RowKit

theorem sealR_cases (D : Dsk) (L : Lg) (n : Nat) : ((sealR D L n).1 = 24 ∧ (sealR D L n).2.2 = L) ∨ ((sealR D L n).1 = 0 ∧ (sealR D L n).2.2 = { cnt := up64 L.cnt, len := n, st := L.st.take n, wait := 0 }) := by
  unfold sealR
  split
  · exact .inl ⟨rfl, rfl⟩
  · split
    · exact .inl ⟨rfl, rfl⟩
    · exact .inr ⟨rfl, rfl⟩
theorem RLogIn.end4 {w : World} {m r : Nat} {F : Nat → Prop} {L : Lg} {tv wv : Value} (h : RLogIn w m r F L tv wv) (c : Int) (v : Value) (xs : List Int) (hv : Byts w 0 v xs) (hf : ∀ g, v.ownBlock = some g → F g) (hok : Lg.ok ⟨c, xs.length, xs, 0⟩) :
    RLogAt ((((w.setCell ⟨m, 1, none⟩ (.int .u64 c)).setCell ⟨m, 2, none⟩ v).setCell ⟨m, 3, none⟩ (.slice none 0 0)).setCell ⟨m, 4, none⟩ (.int .i64 0)) m r F ⟨c, xs.length, xs, 0⟩
    ∧ Chg (fun k => k = m) w ((((w.setCell ⟨m, 1, none⟩ (.int .u64 c)).setCell ⟨m, 2, none⟩ v).setCell ⟨m, 3, none⟩ (.slice none 0 0)).setCell ⟨m, 4, none⟩ (.int .i64 0)) := by
  have hx : Chg (fun k => k = m) w ((((w.setCell ⟨m, 1, none⟩ (.int .u64 c)).setCell ⟨m, 2, none⟩ v).setCell ⟨m, 3, none⟩ (.slice none 0 0)).setCell ⟨m, 4, none⟩ (.int .i64 0)) :=
    ((((Chg.refl (fun k => k = m) w).setCell (p := ⟨m, 1, none⟩) (.inl rfl) _).setCell (p := ⟨m, 2, none⟩) (.inl rfl) _).setCell (p := ⟨m, 3, none⟩) (.inl rfl) _).setCell (p := ⟨m, 4, none⟩) (.inl rfl) _
  refine ⟨⟨v, .slice none 0 0, ?_, ?_, ?_, (apartB_nil _).symm, h.fm, hf, fun g hg => by simp [Value.ownBlock] at hg, hok⟩, hx⟩
  · rw [hset_eq (hset_eq (hset_eq (hset_eq h.self)))]; rfl
  · have : (List.take (xs.length : Int).toNat xs) = xs := by rw [Int.toNat_natCast]; exact List.take_length
    show Byts _ 0 v (List.take (xs.length : Int).toNat xs)
    rw [this]
    refine hv.chg hx (fun g hg e => ?_)
    subst e
    obtain ⟨cur, hc⟩ := ownsRow_heap hv.row hg
    have := h.self
    rw [hc] at this
    simp at this
  · show Byts _ 0 _ (List.drop (xs.length : Int).toNat xs)
    rw [Int.toNat_natCast, List.drop_length]
    exact Byts.nil _ _
theorem rreset_nil (w : World) : Calls Try.prog 41 #[.pointer none] w fun e w' => e = .returned (.int .i64 2) ∧ w = w' := by
  go_enter Try.func41, Try.ntmps41
  go_wp2
  go_ret
  exact ⟨rfl, rfl⟩
theorem rappend_nil (v : Value) (w : World) : Calls Try.prog 39 #[.pointer none, v] w fun e w' => e = .returned (.int .i64 2) ∧ w = w' := by
  go_enter Try.func39, Try.ntmps39
  go_wp2
  go_ret
  exact ⟨rfl, rfl⟩
theorem rflush_nil (w : World) : Calls Try.prog 40 #[.pointer none] w fun e w' => e = .returned (.int .i64 2) ∧ w = w' := by
  go_enter Try.func40, Try.ntmps40
  go_wp2
  go_ret
  exact ⟨rfl, rfl⟩
set_option maxRecDepth 100000 in
theorem rreset_any (m r : Nat) (A F : Nat → Prop) (D : Dsk) (L : Lg) (w : World) (hd : RefAt w r A D) (hl : RLogAt w m r F L) (hap : ∀ k, A k → ¬ F k) (hsz : 3 ≤ D.size) (hlen : D.wait.length < 2900000000000) :
    Calls Try.prog 41 #[.pointer (some ⟨m, 0, none⟩)] w fun e w' => e = .returned (.int .i64 (sealR D L 0).1) ∧ RefAt w' r (Ext A w w') (sealR D L 0).2.1 ∧ RLogAt w' m r F (sealR D L 0).2.2 ∧ Chg (fun k => A k ∨ F k) w w' := by
  have hm : m < w.heap.size := by obtain ⟨tv, wv, h⟩ := hl; exact h.cells.2.2.2.2.2
  have HAP := Lib.hid hap
  go_enter Try.func41, Try.ntmps41
  go_wp2_with fail
  refine (rseal_any m r A F D L w 0 hd hl hap (by omega) hsz hlen).mono ?_
  rintro e w1 ⟨rfl, d1, l1, x1⟩
  have D1 := Lib.hid d1; have X1 := Lib.hid x1
  have hc := sealR_cases D L 0
  obtain ⟨e1, he1⟩ : ∃ e1, e1 = (sealR D L 0).1 := ⟨_, rfl⟩
  obtain ⟨L1, hL1⟩ : ∃ L1, L1 = (sealR D L 0).2.2 := ⟨_, rfl⟩
  rw [← he1, ← hL1] at hc
  rw [← he1]
  have HE1 := Lib.hid he1; have HL1 := Lib.hid hL1
  clear he1 hL1
  have HC := Lib.hid hc
  obtain ⟨tv, wv, l1⟩ := l1
  obtain ⟨so, sc, rfl, _⟩ := l1.there.form
  obtain ⟨so2, sc2, rfl, _⟩ := l1.wait.form
  have HL := Lib.hid l1
  obtain ⟨c0, c1, c2, c3, c4, c5⟩ := l1.cells
  have hup := up64_wrap L.cnt
  have hul := up64_lt L.cnt
  have UP := Lib.hid hup; have UL := Lib.hid hul
  have f := l1.free
  clear hd hl hap d1 x1 l1 hup hul hc
  rcases HC.out with ⟨rfl, h2⟩ | ⟨rfl, h2⟩
  · go_wp2
    go_ret
    rw [← HE1.out, ← HL1.out, h2]
    exact ⟨rfl, D1.out, ⟨_, _, HL.out⟩, X1.out.mono (fun _ h => .inl (.inl h))⟩
  · go_wp2
    go_ret
    rw [UP.out, ← HE1.out, ← HL1.out, h2]
    have hh := HL.out
    obtain ⟨y1, y2⟩ := hh.end4 (up64 L.cnt) (.slice none 0 0) [] (Byts.nil _ _) (fun g hg => by simp [Value.ownBlock] at hg) ⟨UL.out.1, UL.out.2, by show (0 : Int) ≤ ((0 : Nat) : Int); decide, Int.le_refl _, by show 0 ≤ 4194304; decide, fun _ h => (List.not_mem_nil h).elim, by show (0 : Int) ≤ 0; decide, by show 4 * (0 : Int) ≤ ((0 : Nat) : Int); decide⟩
    refine ⟨rfl, ?_, y1, ?_⟩
    · refine (D1.out.chg y2 (fun k hk e => ?_)).mono (fun k hk hl => ?_)
      · subst e
        rcases hk with h | h
        · exact HAP.out _ h hh.fm
        · have := h.1; omega
      · rcases hk with h | h
        · exact .inl h
        · exact .inr ⟨h.1, hl⟩
    · exact (X1.out.mono (fun k hk => .inl (.inl hk))).trans y2 (fun k hk => by subst hk; exact .inl (.inr hh.fm))
theorem RefAt.size_ {w : World} {r : Nat} {A : Nat → Prop} {D : Dsk} (h : RefAt w r A D) : w.cell? ⟨r, 0, none⟩ = some (.int .i64 D.size) ∧ 0 ≤ D.size ∧ D.size ≤ 65536 := by
  obtain ⟨kv, wv, h⟩ := h
  exact ⟨h.cells.1, h.ok.1, h.ok.2.1⟩
set_option maxRecDepth 100000 in
theorem rappend_full (m r : Nat) (A F : Nat → Prop) (D : Dsk) (L : Lg) (w : World) (ao : Option Addr) (n cap : Nat) (hd : RefAt w r A D) (hl : RLogAt w m r F L) (hn : n ≤ 1000000000000000)
    (hlen : (L.st.length : Int) + 4 + n > (D.size - 2) * 64) :
    Calls Try.prog 39 #[.pointer (some ⟨m, 0, none⟩), .slice ao n cap] w fun e w' => e = .returned (.int .i64 21) ∧ Chg (fun _ => False) w w' := by
  obtain ⟨tv, wv, hl⟩ := hl
  obtain ⟨to_, tc, rfl, _⟩ := hl.there.form
  obtain ⟨wo, wc, rfl, _⟩ := hl.wait.form
  obtain ⟨c0, c1, c2, c3, c4, c5⟩ := hl.cells
  obtain ⟨d0, d1, d2⟩ := hd.size_
  have s1 := hl.ok.s1
  obtain ⟨a, ha⟩ : ∃ a, a = (L.st.take L.len.toNat).length := ⟨_, rfl⟩
  obtain ⟨b, hb⟩ : ∃ b, b = (L.st.drop L.len.toNat).length := ⟨_, rfl⟩
  have hab : a + b = L.st.length := by rw [ha, hb, List.length_take, List.length_drop]; omega
  rw [← ha] at c2
  rw [← hb] at c3
  have hq1 : IntKind.i64.wrap (IntKind.i64.wrap (IntKind.i64.wrap ((a : Int) + b) + 4) + n) = L.st.length + 4 + n := by rw [wrapI ((a : Int) + b) (by omega) (by omega), wrapI ((a : Int) + b + 4) (by omega) (by omega), wrapI ((a : Int) + b + 4 + n) (by omega) (by omega)]; omega
  have hq2 : IntKind.i64.wrap (64 * IntKind.i64.wrap (D.size - 2)) = (D.size - 2) * 64 := by rw [wrapI (D.size - 2) (by omega) (by omega), wrapI (64 * (D.size - 2)) (by omega) (by omega)]; omega
  have HQ1 := Lib.hid hq1; have HQ2 := Lib.hid hq2
  clear hl hd ha hb hq1 hq2
  go_enter Try.func39, Try.ntmps39
  go_wp2_with fail
  refine wp_region_lex (fun w' => w'.cell? ⟨m, 0, none⟩ = some (.pointer (some ⟨r, 0, none⟩)) ∧ w'.cell? ⟨m, 2, none⟩ = some (.slice to_ a tc) ∧ w'.cell? ⟨m, 3, none⟩ = some (.slice wo b wc) ∧ w'.cell? ⟨r, 0, none⟩ = some (.int .i64 D.size)) 99 [] [0, 1, 2, 3, 4, 5, 6, 7, 8, 9, 10, 11, 12, 13, 14, 15, 16, 17, 18, 19, 20, 21, 22, 23, 24] (by kernel_rfl) (by kernel_rfl) ⟨c0, c2, c3, d0⟩ ?_
  iterate 25
    refine' lex_free (v := _) rfl rfl rfl ?_ (fun _ _ _ h => h) ?_
    rotate_left
    · rintro W ⟨hW1, hW2, hW3, hW4⟩
      go_simp
      with_reducible rfl
    try simp only [Act.put, List.setIfInBounds_toArray, List.set_cons_zero, List.set_cons_succ]
  refine lex_nil ?_
  rw [HQ1.out, HQ2.out]
  go_wp2
  go_ret
  exact ⟨rfl, (Chg.refl _ _).drew⟩
set_option maxRecDepth 100000 in
set_option maxHeartbeats 1000000 in
theorem rappend_ok (m r : Nat) (A F : Nat → Prop) (D : Dsk) (L : Lg) (w : World) (ao : Option Addr) (n cap : Nat) (rec : List Int) (hd : RefAt w r A D) (hl : RLogAt w m r F L) (hr : BytR w F (.slice ao n cap) rec)
    (hlen : (L.st.length : Int) + 4 + rec.length ≤ (D.size - 2) * 64) :
    Calls Try.prog 39 #[.pointer (some ⟨m, 0, none⟩), .slice ao n cap] w fun e w' => e = .returned (.int .i64 0) ∧ RLogAt w' m r (Ext F w w') { L with st := L.st ++ leN rec.length 4 ++ rec, wait := L.wait + 1 } ∧ Chg F w w' := by
  obtain ⟨tv, wv, hl⟩ := hl
  obtain ⟨to_, tc, rfl, _⟩ := hl.there.form
  obtain ⟨wo, wc, rfl, _⟩ := hl.wait.form
  obtain ⟨c0, c1, c2, c3, c4, c5⟩ := hl.cells
  obtain ⟨d0, d1, d2⟩ := hd.size_
  obtain ⟨rfl, hr0, hr1⟩ := hr.get
  have s1 := hl.ok.s1
  have w0 := hl.ok.w0
  have w1 := hl.ok.w1
  have l1 := hl.ok.l1
  have HL := Lib.hid hl
  have HR := Lib.hid hr; have HR0 := Lib.hid hr0; have HR1 := Lib.hid hr1
  obtain ⟨a, ha⟩ : ∃ a, a = (L.st.take L.len.toNat).length := ⟨_, rfl⟩
  obtain ⟨b, hb⟩ : ∃ b, b = (L.st.drop L.len.toNat).length := ⟨_, rfl⟩
  have hab : a + b = L.st.length := by rw [ha, hb, List.length_take, List.length_drop]; omega
  rw [← ha] at c2
  rw [← hb] at c3
  have hq1 : IntKind.i64.wrap (IntKind.i64.wrap (IntKind.i64.wrap ((a : Int) + b) + 4) + rec.length) = L.st.length + 4 + rec.length := by rw [wrapI ((a : Int) + b) (by omega) (by omega), wrapI ((a : Int) + b + 4) (by omega) (by omega), wrapI ((a : Int) + b + 4 + rec.length) (by omega) (by omega)]; omega
  have hq2 : IntKind.i64.wrap (64 * IntKind.i64.wrap (D.size - 2)) = (D.size - 2) * 64 := by rw [wrapI (D.size - 2) (by omega) (by omega), wrapI (64 * (D.size - 2)) (by omega) (by omega)]; omega
  have hq3 : IntKind.u64.wrap (rec.length : Int) = rec.length := wrapU _ (by omega) (by omega)
  have HQ1 := Lib.hid hq1; have HQ2 := Lib.hid hq2; have HQ3 := Lib.hid hq3
  have HA := Lib.hid ha; have HB := Lib.hid hb
  have hself : w.heap[m]? = some (.cells #[.pointer (some ⟨r, 0, none⟩), .int .u64 L.cnt, .slice to_ a tc, .slice wo b wc, .int .i64 L.wait] 86 (0, 0)) := by rw [ha, hb]; exact hl.self
  have HS := Lib.hid hself
  have C3 := Lib.hid c3
  clear hl hd ha hb hq1 hq2 hq3 hr hr0 hr1 hself
  go_enter Try.func39, Try.ntmps39
  go_wp2_with fail
  refine wp_region_lex (fun w' => w'.cell? ⟨m, 0, none⟩ = some (.pointer (some ⟨r, 0, none⟩)) ∧ w'.cell? ⟨m, 2, none⟩ = some (.slice to_ a tc) ∧ w'.cell? ⟨m, 3, none⟩ = some (.slice wo b wc) ∧ w'.cell? ⟨r, 0, none⟩ = some (.int .i64 D.size)) 99 [] [0, 1, 2, 3, 4, 5, 6, 7, 8, 9, 10, 11, 12, 13, 14, 15, 16, 17, 18, 19, 20, 21, 22, 23, 24] (by kernel_rfl) (by kernel_rfl) ⟨c0, c2, c3, d0⟩ ?_
  clear c0 c1 c2 c3 c4 d0
  iterate 25
    refine' lex_free (v := _) rfl rfl rfl ?_ (fun _ _ _ h => h) ?_
    rotate_left
    · rintro W ⟨hW1, hW2, hW3, hW4⟩
      go_simp
      with_reducible rfl
    try simp only [Act.put, List.setIfInBounds_toArray, List.set_cons_zero, List.set_cons_succ]
  refine lex_nil ?_
  rw [HQ1.out, HQ2.out]
  go_wp2_with fail
  obtain ⟨W0, hW0⟩ : ∃ W0, W0 = w.drew := ⟨_, rfl⟩
  have x0 : Chg (fun _ => False) w W0 := by rw [hW0]; exact (Chg.refl _ _).drew
  have X0 := Lib.hid x0
  rw [← hW0]
  have c3 : W0.cell? ⟨m, 3, none⟩ = some (.slice wo b wc) := by rw [hW0]; exact C3.out
  clear hW0 x0
  refine wp_region_lex (fun w' => w'.cell? ⟨m, 3, none⟩ = some (.slice wo b wc)) 13 [8, 10, 13] [0, 1, 2, 3, 4, 5, 6, 7, 8, 9, 10, 11, 12, 13] (by kernel_rfl) (by kernel_rfl) c3 ?_
  clear c3
  iterate 8
    refine' lex_free (v := _) rfl rfl rfl ?_ (fun _ _ _ h => h) ?_
    rotate_left
    · rintro W hW1
      go_simp
      with_reducible rfl
    try simp only [Act.put, List.setIfInBounds_toArray, List.set_cons_zero, List.set_cons_succ]
  rw [HQ3.out]
  obtain ⟨W1, hW1⟩ : ∃ W1, W1 = W0.drew := ⟨_, rfl⟩
  have x1 : Chg (fun _ => False) w W1 := by rw [hW1]; exact X0.out.drew
  have X1 := Lib.hid x1
  rw [← hW1]
  clear hW1 x1
  refine lex_op rfl rfl rfl (fun K hK => ?_)
  go_simp
  refine (eight_any rec.length W1 (by omega) (by omega)).mono ?_
  rintro e w2 ⟨bv, rfl, b2, x2⟩
  have X2 := Lib.hid (X1.out.trans x2 (fun _ h => .inl h)); have hx4 := x2.size
  obtain ⟨bo, bc, rfl, _⟩ := b2.form
  have h4c := b2.capLe.1
  rw [leN_len] at h4c
  rw [leN_len] at b2 ⊢
  have b4 := b2.take 4 (by simp)
  rw [leN_take] at b4
  have B2 := Lib.hid b4
  clear b4
  have l2 := X2.out.heap HS.out (fun h => h)
  have L2 := Lib.hid l2
  refine hK _ _ (fun _ => (cell_of_row w2 m 3 _ _ _ l2)) ?_
  clear hK K
  try simp only [Act.put, List.setIfInBounds_toArray, List.set_cons_zero, List.set_cons_succ]
  clear x2 b2 l2
  have hle4 : (4 : Int) ≤ bc := by omega
  iterate 1
    refine' lex_free (v := _) rfl rfl rfl ?_ (fun _ _ _ h => h) ?_
    rotate_left
    · rintro W hW1
      go_simp
      with_reducible rfl
    try simp only [Act.put, List.setIfInBounds_toArray, List.set_cons_zero, List.set_cons_succ]
  refine lex_op rfl rfl rfl (fun K hK => ?_)
  have lo1 := HL.out.wait.quiet X2.out
  rw [← HB.out] at lo1
  refine wp_byts _ _ rfl 0 (.slice wo b wc) (L.st.drop L.len.toNat) rfl lo1 bo bc (leN rec.length 4) rfl B2.out.get.2.1 B2.out.get.2.2 (by rw [← HB.out]; simp; omega) (Nat.zero_le _) (fun v3 w3 y3 x3 n3 => ?_)
  have hne := HL.out.ne.2
  rw [← HB.out] at hne
  have hfw := HL.out.fw
  rw [← HB.out] at hfw
  have l3 := x3.heap L2.out (fun h => hne m h rfl)
  have X3 := Lib.hid ((X2.out.mono (fun _ h => h.elim)).trans x3 (fun k hk => .inl (hfw k hk)))
  have hz3 := X2.out.size
  have N3 := Lib.hid (show ∀ g, v3.ownBlock = some g → F g ∨ w.heap.size ≤ g from fun g hg => by
    rcases n3 g hg with h | h
    · exact .inl (hfw g h)
    · exact .inr (by omega))
  have L3 := Lib.hid l3; have Y3 := Lib.hid y3
  have hne3 : ∀ g, v3.ownBlock = some g → g ≠ m := fun g hg e => by
    subst e
    obtain ⟨cur, hc⟩ := ownsRow_heap y3.row hg
    rw [l3] at hc
    simp at hc
  have NE3 := Lib.hid hne3
  have T3 := Lib.hid (show Byts w3 0 (.slice to_ _ tc) _ from (HL.out.there.quiet X2.out).chg x3 (fun g hg h => by have := HL.out.apart g hg; rw [← HB.out] at this; exact this h))
  have A3 := Lib.hid (show ApartB (.slice to_ (L.st.take L.len.toNat).length tc) v3 from fun g hg h => by
    rcases n3 g h with h2 | h2
    · have := HL.out.apart g hg; rw [← HB.out] at this; exact this h2
    · have := HL.out.there.lt hg; omega)
  refine hK _ _ (fun _ => (cell_of_row w3 m 3 _ _ _ L3.out)) ?_
  clear hK K
  try simp only [Act.put, List.setIfInBounds_toArray, List.set_cons_zero, List.set_cons_succ]
  clear x3 y3 n3 l3 lo1 hne hfw hne3
  obtain ⟨so3, sc3, he3, _⟩ := Y3.out.form
  obtain ⟨n3, hn3⟩ : ∃ n, n = (L.st.drop L.len.toNat ++ leN rec.length 4).length := ⟨_, rfl⟩
  have hn3b : n3 = b + 4 := by rw [hn3, List.length_append, leN_len, HB.out]
  rw [← hn3] at he3
  have HN3 := Lib.hid hn3; have HN3B := Lib.hid hn3b
  clear hn3 hn3b
  subst he3
  iterate 2
    refine' lex_free (v := _) rfl rfl rfl ?_ (fun _ _ _ h => h) ?_
    rotate_left
    · rintro W hW1
      go_simp
      with_reducible rfl
    try simp only [Act.put, List.setIfInBounds_toArray, List.set_cons_zero, List.set_cons_succ]
  have f3 : w3.frozen? ⟨m, 3, none⟩ = false := frozen_of_row w3 m 3 _ _ L3.out
  have c33 := cell_of_row w3 m 3 _ _ _ L3.out
  refine lex_op rfl rfl rfl (fun K hK => ?_)
  go_simp
  obtain ⟨W4, hW4⟩ : ∃ W4, W4 = w3.setCell ⟨m, 3, none⟩ (.slice so3 n3 sc3) := ⟨_, rfl⟩
  rw [← hW4]
  have x4 : Chg (fun k => k = m) w3 W4 := by rw [hW4]; exact (Chg.refl (fun k => k = m) w3).setCell (p := ⟨m, 3, none⟩) (.inl rfl) _
  have l4 : W4.heap[m]? = some (.cells #[.pointer (some ⟨r, 0, none⟩), .int .u64 L.cnt, .slice to_ a tc, .slice so3 n3 sc3, .int .i64 L.wait] 86 (0, 0)) := by rw [hW4, hset_eq L3.out]; rfl
  have y4 := Y3.out.chg x4 NE3.out
  have L4 := Lib.hid l4; have Y4 := Lib.hid y4
  have X4 := Lib.hid (X3.out.trans x4 (fun k hk => .inl (by subst hk; exact HL.out.fm)))
  have T4 := Lib.hid (T3.out.chg x4 (fun g hg e => HL.out.ne.1 g hg e))
  have hz4 : W4.heap.size = w3.heap.size := by rw [hW4]; simp
  refine hK _ _ (fun h => absurd rfl h) ?_
  clear hK K
  try simp only [Act.put, List.setIfInBounds_toArray, List.set_cons_zero, List.set_cons_succ]
  clear hW4 x4 l4 y4 f3 c33
  refine lex_nil ?_
  have c4 := cell_of_row W4 m 3 _ _ _ L4.out
  go_wp2_with (at_builtin; refine wpList_byts rfl _ _ rfl 0 (.slice so3 n3 sc3) _ rfl Y4.out ao rec.length cap rec rfl rfl HR0.out (fun ad had j hj => ?_) (by rw [← HN3.out, HN3B.out]; omega) (Nat.zero_le _) ?_)
  · have h4 := HR1.out ad had j hj
    obtain ⟨_, _, ao', c', he, h3⟩ := HR.out
    simp only [Value.slice.injEq] at he
    obtain ⟨b, o, e, ho, _⟩ := h3 (by omega)
    rw [← he.1, had] at e
    obtain rfl := Option.some.inj e
    rw [Addr.add_mid] at h4 ⊢
    exact (cell_of_heap (X4.out.keep b ho.1 ho.2)).trans h4
  intro v5 w5 y5 x5 n5
  have l5 : w5.heap[m]? = _ := x5.heap L4.out (fun h => NE3.out m h rfl)
  have hne5 : ∀ g, v5.ownBlock = some g → g ≠ m := fun g hg e => by
    subst e
    obtain ⟨cur, hc⟩ := ownsRow_heap y5.row hg
    rw [l5] at hc
    simp at hc
  have x05 : Chg F w w5 := X4.out.trans x5 (fun k hk => N3.out k hk)
  have t5 : Byts w5 0 (.slice to_ (L.st.take L.len.toNat).length tc) (L.st.take L.len.toNat) := T4.out.chg x5 (fun g hg h => A3.out g hg h)
  have hs3 := X3.out.size
  have n05 : ∀ g, v5.ownBlock = some g → Ext F w w5 g := fun g hg => by
    have hl5 := y5.lt hg
    rcases n5 g hg with h | h
    · rcases N3.out g h with h | h
      · exact .inl h
      · exact .inr ⟨h, hl5⟩
    · exact .inr ⟨by omega, hl5⟩
  have a5 : ApartB (.slice to_ (L.st.take L.len.toNat).length tc) v5 := fun g hg h => by
    rcases n5 g h with h2 | h2
    · exact A3.out g hg h2
    · have := T4.out.lt hg; omega
  obtain ⟨so5, sc5, he5, _⟩ := y5.form
  obtain ⟨n6, hn6⟩ : ∃ n, n = (L.st.drop L.len.toNat ++ (leN rec.length 4 ++ rec)).length := ⟨_, rfl⟩
  rw [← hn6] at he5
  clear hn6
  subst he5
  have L5 := Lib.hid l5; have NE5 := Lib.hid hne5; have X5 := Lib.hid x05; have T5 := Lib.hid t5; have N5 := Lib.hid n05; have A5 := Lib.hid a5; have Y5 := Lib.hid y5
  have c53 := cell_of_row w5 m 3 _ _ _ l5
  have c54 := cell_of_row w5 m 4 _ _ _ l5
  have f5 : ∀ o, w5.frozen? ⟨m, o, none⟩ = false := fun o => frozen_of_row w5 m o _ _ L5.out
  clear l5 hne5 x05 t5 n05 a5 y5 x5 n5 c4
  go_wp2_with fail
  go_ret
  have hh := HL.out
  have ho := hh.ok
  have l1n : L.len.toNat ≤ L.st.length := by have := ho.l1; omega
  have htk : (L.st ++ leN rec.length 4 ++ rec).take L.len.toNat = L.st.take L.len.toNat := by rw [List.append_assoc, List.take_append_of_le_length l1n]
  have hdk : (L.st ++ leN rec.length 4 ++ rec).drop L.len.toNat = L.st.drop L.len.toNat ++ (leN rec.length 4 ++ rec) := by rw [List.append_assoc, List.drop_append_of_le_length l1n]
  have x6 : ∀ p q, Chg (fun k => k = m) w5 ((w5.setCell ⟨m, 3, none⟩ p).setCell ⟨m, 4, none⟩ q) := fun p q => ((Chg.refl (fun k => k = m) w5).setCell (p := ⟨m, 3, none⟩) (.inl rfl) _).setCell (p := ⟨m, 4, none⟩) (.inl rfl) _
  refine ⟨rfl, ⟨.slice to_ (L.st.take L.len.toNat).length tc, .slice so5 n6 sc5, ?_, ?_, ?_, A5.out, .inl hh.fm, fun g hg => .inl (hh.ft g hg), ?_, ?_⟩, ?_⟩
  · rw [hset_eq (hset_eq L5.out), HA.out]; rfl
  · show Byts _ 0 _ ((L.st ++ leN rec.length 4 ++ rec).take L.len.toNat)
    rw [htk]
    exact T5.out.chg (x6 _ _) (fun g hg e => hh.ne.1 g hg e)
  · show Byts _ 0 _ ((L.st ++ leN rec.length 4 ++ rec).drop L.len.toNat)
    rw [hdk]
    exact Y5.out.chg (x6 _ _) NE5.out
  · intro g hg
    rcases N5.out g hg with h | h
    · exact .inl h
    · exact .inr ⟨h.1, by simpa using h.2⟩
  · refine ⟨ho.c0, ho.c1, ho.l0, ?_, ?_, ?_, ?_, ?_⟩
    · have := ho.l1; simp only [List.length_append]; omega
    · simp only [List.length_append, leN_len]; omega
    · intro b hb
      simp only [List.mem_append] at hb
      rcases hb with (hb | hb) | hb
      · exact ho.by_ b hb
      · exact leN_bytes _ _ b hb
      · exact HR.out.1 b hb
    · show 0 ≤ L.wait + 1; omega
    · show 4 * (L.wait + 1) ≤ _
      simp only [List.length_append, leN_len]; omega
  · exact X5.out.trans (x6 _ _) (fun k hk => by subst hk; exact .inl hh.fm)
end Go.Proofs.Ytihpobpkhhkejaa
