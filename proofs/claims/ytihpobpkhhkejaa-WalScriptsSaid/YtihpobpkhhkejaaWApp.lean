/-
  What the log's Append does. Conditions: a log over a disk stands at the address, the bytes lie elsewhere.
-/
import Derived.Test.YtihpobpkhhkejaaWZone
set_option autoImplicit false
namespace Go.Proofs.Ytihpobpkhhkejaa
open Go Go.RowKit

theorem wrapI (n : Int) (h0 : -9223372036854775808 ≤ n) (h1 : n ≤ 9223372036854775807) : IntKind.i64.wrap n = n := by simp [IntKind.wrap, IntKind.bits, IntKind.signed]; omega
theorem wrapU (n : Int) (h0 : 0 ≤ n) (h1 : n ≤ 18446744073709551615) : IntKind.u64.wrap n = n := by simp [IntKind.wrap, IntKind.bits, IntKind.signed]; omega
theorem append_nil (v : Value) (w : World) : Calls Try.prog 32 #[.pointer none, v] w fun e w' => e = .returned (.int .i64 2) ∧ w = w' := by
  go_enter Try.func32, Try.ntmps32
  go_wp2
  go_ret
  exact ⟨rfl, rfl⟩
set_option maxRecDepth 100000 in
theorem append_full (l d : Nat) (A F : Nat → Prop) (D : Dsk) (L : Lg) (w : World) (ao : Option Addr) (n cap : Nat) (hd : DiskAt w d A D) (hl : LogAt w l d F L) (hn : n ≤ maxLen)
    (hlen : (L.st.length : Int) + 4 + n > (D.size - 2) * 64) :
    Calls Try.prog 32 #[.pointer (some ⟨l, 0, none⟩), .slice ao n cap] w fun e w' => e = .returned (.int .i64 21) ∧ Chg (fun _ => False) w w' := by
  obtain ⟨sv, hl⟩ := hl
  obtain ⟨so, sc, rfl, _⟩ := hl.row.form
  obtain ⟨c0, c1, c2, c3, c4, c5⟩ := hl.cells
  have s1 := hl.ok.s1
  have d0 := hd.ok.1
  have d1 := hd.ok.2.1
  unfold maxLen at hn
  have hq : IntKind.i64.wrap (IntKind.i64.wrap ((D.size - 2) * 64 - (L.st.length : Int)) - 4) = (D.size - 2) * 64 - (L.st.length : Int) - 4 := by
    rw [wrapI ((D.size - 2) * 64 - (L.st.length : Int)) (by omega) (by omega), wrapI _ (by omega) (by omega)]
  have HD := Lib.hid hd; have HQ := Lib.hid hq
  clear hq
  have C0 := Lib.hid c0; have C3 := Lib.hid c3
  clear hl hd
  go_enter Try.func32, Try.ntmps32
  go_wp2_with fail
  refine wp_region_lex (fun w' => w'.cell? ⟨l, 0, none⟩ = some (.pointer (some ⟨d, 0, none⟩)) ∧ w'.cell? ⟨l, 3, none⟩ = some (.slice so L.st.length sc)) 99 [3] [0, 1, 2, 4, 5, 6, 7, 8, 3, 9, 10, 11, 12] (by kernel_rfl) (by kernel_rfl) ⟨c0, c3⟩ ?_
  clear c0 c1 c2 c3 c4
  iterate 8
    refine' lex_free (v := _) rfl rfl rfl ?_ (fun _ _ _ h => h) ?_
    rotate_left
    · rintro W ⟨hW1, hW2⟩
      go_simp
      with_reducible rfl
    try simp only [Act.put, List.setIfInBounds_toArray, List.set_cons_zero, List.set_cons_succ]
  refine lex_op rfl rfl rfl (fun K hK => ?_)
  go_simp
  refine (room_cells l d A D w.drew C0.out (HD.out.chg (Chg.refl (fun _ => False) _).drew (fun _ _ h => h))).mono ?_
  rintro e w1 ⟨rfl, rfl⟩
  refine hK _ _ (fun _ => ⟨C0.out, C3.out⟩) ?_
  clear hK K
  try simp only [Act.put, List.setIfInBounds_toArray, List.set_cons_zero, List.set_cons_succ]
  iterate 4
    refine' lex_free (v := _) rfl rfl rfl ?_ (fun _ _ _ h => h) ?_
    rotate_left
    · rintro W ⟨hW1, hW2⟩
      go_simp
      with_reducible rfl
    try simp only [Act.put, List.setIfInBounds_toArray, List.set_cons_zero, List.set_cons_succ]
  rw [HQ.out]
  refine lex_nil ?_
  go_wp2
  go_ret
  exact ⟨rfl, (Chg.refl _ _).drew⟩
/-- the bytes of a slice that came in, as append wants them -/
theorem BytR.get {w : World} {Z : Nat → Prop} {ao : Option Addr} {n c : Nat} {xs : List Int} (h : BytR w Z (.slice ao n c) xs) : n = xs.length ∧ (ao = none → xs.length = 0) ∧ ∀ ad, ao = some ad → ∀ j, (hj : j < xs.length) → w.cell? (ad.add j) = some (.int .u8 xs[j]) := by
  obtain ⟨h1, h2, ao', c', he, h3⟩ := h
  simp only [Value.slice.injEq] at he
  obtain ⟨rfl, rfl, rfl⟩ := he
  refine ⟨rfl, fun hn => ?_, fun ad had j hj => ?_⟩
  · by_cases h0 : 0 < xs.length
    · obtain ⟨b, o, e, _⟩ := h3 h0
      rw [hn] at e; cases e
    · omega
  · obtain ⟨b, o, e, _, hc⟩ := h3 (by omega)
    rw [had] at e
    obtain rfl := Option.some.inj e
    rw [Addr.add_mid]
    exact hc j hj
theorem Byts.get {w : World} {lo n c : Nat} {ao : Option Addr} {xs : List Int} (h : Byts w lo (.slice ao n c) xs) : n = xs.length ∧ (ao = none → xs.length = 0) ∧ ∀ ad, ao = some ad → ∀ j, (hj : j < xs.length) → w.cell? (ad.add j) = some (.int .u8 xs[j]) := by
  obtain ⟨ao', c', he, h3⟩ := h.form
  simp only [Value.slice.injEq] at he
  obtain ⟨rfl, rfl, rfl⟩ := he
  refine ⟨rfl, fun hn => ?_, fun ad had j hj => ?_⟩
  · by_cases h0 : 0 < xs.length
    · obtain ⟨g, e, _⟩ := h3 h0
      rw [hn] at e; cases e
    · omega
  · obtain ⟨g, e, _, hc⟩ := h3 (by omega)
    rw [had] at e
    obtain rfl := Option.some.inj e
    rw [Addr.add_mid, Nat.zero_add]
    exact hc j hj
set_option maxRecDepth 100000 in
set_option maxHeartbeats 1000000 in
theorem append_ok (l d : Nat) (A F : Nat → Prop) (D : Dsk) (L : Lg) (w : World) (ao : Option Addr) (n cap : Nat) (rec : List Int) (hd : DiskAt w d A D) (hl : LogAt w l d F L) (hr : BytR w F (.slice ao n cap) rec)
    (hlen : (L.st.length : Int) + 4 + rec.length ≤ (D.size - 2) * 64) :
    Calls Try.prog 32 #[.pointer (some ⟨l, 0, none⟩), .slice ao n cap] w fun e w' => e = .returned (.int .i64 0) ∧ LogAt w' l d (Ext F w w') { L with st := L.st ++ leN rec.length 4 ++ rec, wait := L.wait + 1 } ∧ Chg F w w' := by
  obtain ⟨sv, hl⟩ := hl
  obtain ⟨so, sc, rfl, _⟩ := hl.row.form
  obtain ⟨c0, c1, c2, c3, c4, c5⟩ := hl.cells
  obtain ⟨rfl, hr0, hr1⟩ := hr.get
  have s1 := hl.ok.s1
  have w1 := hl.ok.w1
  have w0 := hl.ok.w0
  have d0 := hd.ok.1
  have d1 := hd.ok.2.1
  have hq : IntKind.i64.wrap (IntKind.i64.wrap ((D.size - 2) * 64 - (L.st.length : Int)) - 4) = (D.size - 2) * 64 - (L.st.length : Int) - 4 := by
    rw [wrapI ((D.size - 2) * 64 - (L.st.length : Int)) (by omega) (by omega), wrapI _ (by omega) (by omega)]
  have hq2 : IntKind.u64.wrap (rec.length : Int) = rec.length := wrapU _ (by omega) (by omega)
  have HD := Lib.hid hd; have HQ := Lib.hid hq; have HQ2 := Lib.hid hq2; have HR := Lib.hid hr; have HR0 := Lib.hid hr0; have HR1 := Lib.hid hr1
  have C0 := Lib.hid c0; have C3 := Lib.hid c3; have HL := Lib.hid hl
  clear hl hd hq hq2 hr hr0 hr1
  go_enter Try.func32, Try.ntmps32
  go_wp2_with fail
  refine wp_region_lex (fun w' => w'.cell? ⟨l, 0, none⟩ = some (.pointer (some ⟨d, 0, none⟩)) ∧ w'.cell? ⟨l, 3, none⟩ = some (.slice so L.st.length sc)) 99 [3] [0, 1, 2, 4, 5, 6, 7, 8, 3, 9, 10, 11, 12] (by kernel_rfl) (by kernel_rfl) ⟨c0, c3⟩ ?_
  clear c0 c1 c2 c3 c4
  iterate 8
    refine' lex_free (v := _) rfl rfl rfl ?_ (fun _ _ _ h => h) ?_
    rotate_left
    · rintro W ⟨hW1, hW2⟩
      go_simp
      with_reducible rfl
    try simp only [Act.put, List.setIfInBounds_toArray, List.set_cons_zero, List.set_cons_succ]
  refine lex_op rfl rfl rfl (fun K hK => ?_)
  go_simp
  refine (room_cells l d A D w.drew C0.out (HD.out.chg (Chg.refl (fun _ => False) _).drew (fun _ _ h => h))).mono ?_
  rintro e w1 ⟨rfl, rfl⟩
  refine hK _ _ (fun _ => ⟨C0.out, C3.out⟩) ?_
  clear hK K
  try simp only [Act.put, List.setIfInBounds_toArray, List.set_cons_zero, List.set_cons_succ]
  iterate 4
    refine' lex_free (v := _) rfl rfl rfl ?_ (fun _ _ _ h => h) ?_
    rotate_left
    · rintro W ⟨hW1, hW2⟩
      go_simp
      with_reducible rfl
    try simp only [Act.put, List.setIfInBounds_toArray, List.set_cons_zero, List.set_cons_succ]
  rw [HQ.out]
  refine lex_nil ?_
  go_wp2
  refine wp_region_lex (fun w' => w'.cell? ⟨l, 3, none⟩ = some (.slice so L.st.length sc)) 14 [8, 9, 11, 14] [0, 1, 2, 3, 4, 5, 6, 7, 10, 8, 9, 11, 12, 13, 14] (by kernel_rfl) (by kernel_rfl) C3.out ?_
  iterate 9
    refine' lex_free (v := _) rfl rfl rfl ?_ (fun _ _ _ h => h) ?_
    rotate_left
    · rintro W hW1
      go_simp
      with_reducible rfl
    try simp only [Act.put, List.setIfInBounds_toArray, List.set_cons_zero, List.set_cons_succ]
  rw [HQ2.out]
  obtain ⟨W0, hW0⟩ : ∃ W0, W0 = w.drew.drew := ⟨_, rfl⟩
  have x0 : Chg (fun _ => False) w W0 := by rw [hW0]; exact (Chg.refl _ _).drew.drew
  have X0 := Lib.hid x0
  rw [← hW0]
  clear hW0 x0
  refine lex_op rfl rfl rfl (fun K hK => ?_)
  go_simp
  refine (bytes_any rec.length 4 W0 (by omega) (by omega) (by omega)).mono ?_
  rintro e w1 ⟨bv, rfl, b1, x1⟩
  have c31 : w1.cell? ⟨l, 3, none⟩ = some (.slice so L.st.length sc) := cell_of_row w1 l 3 _ _ _ (x1.heap (X0.out.heap HL.out.self (fun h => h)) (fun h => h))
  have C31 := Lib.hid c31; have X1 := Lib.hid (X0.out.trans x1 (fun _ h => .inl h)); have B1 := Lib.hid b1
  refine hK _ _ (fun _ => C31.out) ?_
  clear hK K
  try simp only [Act.put, List.setIfInBounds_toArray, List.set_cons_zero, List.set_cons_succ]
  clear c31 x1 b1
  obtain ⟨bo, bc, rfl, _⟩ := B1.out.form
  obtain ⟨hb0, hb1, hb2⟩ := B1.out.get
  have HB1 := Lib.hid hb1; have HB2 := Lib.hid hb2
  have lo1 := HL.out.row.quiet X1.out
  refine lex_op rfl rfl rfl (fun K hK => ?_)
  refine wp_byts _ _ rfl 0 (.slice so L.st.length sc) L.st rfl lo1 bo bc (leN rec.length 4) rfl HB1.out HB2.out (by simp; omega) (Nat.zero_le _) (fun v2 w2 y2 x2 n2 => ?_)
  have hs2 : w2.heap[l]? = _ := x2.heap (X1.out.heap HL.out.self (fun h => h)) (fun h => HL.out.ne h rfl)
  have C32 := Lib.hid (cell_of_row w2 l 3 _ _ _ hs2); have S2 := Lib.hid hs2
  have hx2 : Chg F w w2 := (X1.out.mono (fun _ h => h.elim)).trans x2 (fun k hk => .inl (HL.out.fs k hk))
  have X2 := Lib.hid hx2; have Y2 := Lib.hid y2
  have N2 := Lib.hid (show ∀ g, v2.ownBlock = some g → F g ∨ w.heap.size ≤ g from fun g hg => by
    rcases n2 g hg with h | h
    · exact .inl (HL.out.fs g h)
    · have := X1.out.size; exact .inr (by omega))
  refine hK _ _ (fun _ => C32.out) ?_
  clear hK K
  try simp only [Act.put, List.setIfInBounds_toArray, List.set_cons_zero, List.set_cons_succ]
  clear hs2 hx2 y2 x2 n2 lo1 hb0 hb1 hb2
  refine lex_op rfl rfl rfl (fun K hK => ?_)
  refine wp_byts _ _ rfl 0 v2 _ rfl Y2.out ao cap rec rfl HR0.out (fun ad had j hj => ?_) (by simp; omega) (Nat.zero_le _) (fun v3 w3 y3 x3 n3 => ?_)
  · have h4 := HR1.out ad had j hj
    obtain ⟨_, _, ao', c', he, h3⟩ := HR.out
    simp only [Value.slice.injEq] at he
    obtain ⟨b, o, e, ho, _⟩ := h3 (by omega)
    rw [← he.1, had] at e
    obtain rfl := Option.some.inj e
    rw [Addr.add_mid] at h4 ⊢
    exact (cell_of_heap (X2.out.keep b ho.1 ho.2)).trans h4
  have hne2 : ∀ g, v2.ownBlock = some g → g ≠ l := fun g hg e => by
    subst e
    obtain ⟨cur, hc⟩ := ownsRow_heap Y2.out.row hg
    rw [S2.out] at hc
    simp at hc
  have hs3 : w3.heap[l]? = _ := x3.heap S2.out (fun h => hne2 l h rfl)
  have g3' := (show ∀ g, v3.ownBlock = some g → Ext F w w3 g from fun g hg => by
    have hl3 := y3.lt hg
    rcases n3 g hg with h | h
    · rcases N2.out g h with h | h
      · exact .inl h
      · exact .inr ⟨h, hl3⟩
    · have := X2.out.size; exact .inr ⟨by omega, hl3⟩)
  have hne3 : ∀ g, v3.ownBlock = some g → g ≠ l := fun g hg e => by
    subst e
    obtain ⟨cur, hc⟩ := ownsRow_heap y3.row hg
    rw [hs3] at hc
    simp at hc
  obtain ⟨so3, sc3, he3, _⟩ := y3.form
  obtain ⟨n3', hn3'⟩ : ∃ m, m = (L.st ++ leN rec.length 4 ++ rec).length := ⟨_, rfl⟩
  rw [← hn3'] at he3
  clear hn3'
  subst he3
  have N3 := Lib.hid g3'
  clear g3'
  have C33 := Lib.hid (cell_of_row w3 l 3 _ _ _ hs3); have S3 := Lib.hid hs3
  have C34 := Lib.hid (cell_of_row w3 l 4 _ _ _ hs3)
  have hx3 : Chg F w w3 := X2.out.trans x3 (fun k hk => N2.out k hk)
  have NE3 := Lib.hid hne3
  have X3 := Lib.hid hx3; have Y3 := Lib.hid y3
  refine hK _ _ (fun _ => C33.out) ?_
  clear hK K
  try simp only [Act.put, List.setIfInBounds_toArray, List.set_cons_zero, List.set_cons_succ]
  clear hs3 hx3 y3 x3 n3 hne2 hne3
  iterate 2
    refine' lex_free (v := _) rfl rfl rfl ?_ (fun _ _ _ h => h) ?_
    rotate_left
    · rintro W hW1
      go_simp
      with_reducible rfl
    try simp only [Act.put, List.setIfInBounds_toArray, List.set_cons_zero, List.set_cons_succ]
  have f3 : w3.frozen? ⟨l, 3, none⟩ = false := frozen_of_row w3 l 3 _ _ S3.out
  have f4 : w3.frozen? ⟨l, 4, none⟩ = false := frozen_of_row w3 l 4 _ _ S3.out
  have c33 := C33.out
  have c34 := C34.out
  refine lex_op rfl rfl rfl (fun K hK => ?_)
  go_simp
  refine hK _ _ (fun h => absurd rfl h) ?_
  clear hK K
  try simp only [Act.put, List.setIfInBounds_toArray, List.set_cons_zero, List.set_cons_succ]
  refine lex_nil ?_
  go_wp2
  go_ret
  have hh := HL.out
  refine ⟨rfl, ⟨.slice so3 n3' sc3, ?_, ?_, .inl hh.fl, ?_, ?_⟩, (X3.out.setCell (p := ⟨l, 3, none⟩) (.inl hh.fl) _).setCell (p := ⟨l, 4, none⟩) (.inl hh.fl) _⟩
  · rw [hset_eq (hset_eq S3.out)]; rfl
  · refine Y3.out.chg (G := fun k => k = l) (((Chg.refl (fun k => k = l) w3).setCell (p := ⟨l, 3, none⟩) (.inl rfl) _).setCell (p := ⟨l, 4, none⟩) (.inl rfl) _) (fun g hg => NE3.out g hg)
  · intro g hg
    rcases N3.out g hg with h | h
    · exact .inl h
    · exact .inr ⟨h.1, by simpa using h.2⟩
  · have ho := hh.ok
    refine ⟨ho.c0, ho.c1, ho.l0, ?_, ?_, ?_, ?_, ?_⟩
    · have := ho.l1; simp only [List.length_append]; omega
    · simp only [List.length_append, leN_len]; omega
    · intro b hb
      simp only [List.mem_append] at hb
      rcases hb with (hb | hb) | hb
      · exact ho.by_ b hb
      · exact leN_bytes _ _ b hb
      · exact HR.out.1 b hb
    · show 0 ≤ L.wait + 1; omega
    · show 4 * (L.wait + 1) ≤ _
      simp only [List.length_append, leN_len]; omega
end Go.Proofs.Ytihpobpkhhkejaa
