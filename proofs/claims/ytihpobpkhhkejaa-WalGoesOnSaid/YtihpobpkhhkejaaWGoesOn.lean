/-
  The walk of WalGoesOn: it returns true, for every three rows of bytes that came in.
-/
import Derived.Test.YtihpobpkhhkejaaWAwake
set_option autoImplicit false
namespace Go.Proofs.Ytihpobpkhhkejaa
open Go Go.RowKit

/-- what is read of a list of two, and of two rows that came in -/
structure Rd2 (w : World) (Z : Nat → Prop) (pb po : Nat) (u0 u1 va vb : Value) (a b : List Int) : Prop where
  out : Out w Z pb
  c0 : w.cell? ⟨pb, po, none⟩ = some u0
  c1 : w.cell? ⟨pb, po + 1, none⟩ = some u1
  b0 : BytR w Z u0 a
  b1 : BytR w Z u1 b
  ba : BytR w Z va a
  bb : BytR w Z vb b
theorem Rd2.grow {w w' : World} {Z Z' : Nat → Prop} {pb po : Nat} {u0 u1 va vb : Value} {a b : List Int} (h : Rd2 w Z pb po u0 u1 va vb a b) (g : Grow Z w Z' w') : Rd2 w' Z' pb po u0 u1 va vb a b :=
  ⟨g.out h.out, (cell_of_heap (g.heap h.out)).trans h.c0, (cell_of_heap (g.heap h.out)).trans h.c1, h.b0.grow g, h.b1.grow g, h.ba.grow g, h.bb.grow g⟩
theorem BytR.ne {w : World} {Z : Nat → Prop} {u v : Value} {a b : List Int} (hu : BytR w Z u a) (hv : BytR w Z v b) : ((strOfNums a).toList == (strOfNums b).toList) = decide (a = b) := strNums_list hu.1 hv.1
theorem flatF_len1 (a : List Int) : (flatF [a]).length = a.length + 4 := by simp [flatF, frame_len]
theorem flatF_len2 (a b : List Int) : (flatF [a, b]).length = a.length + 4 + (b.length + 4) := by simp [flatF, frame_len]
set_option maxRecDepth 100000 in
set_option maxHeartbeats 4000000 in
theorem goesOn_walk (va vb vc : Value) (a b c : List Int) (w : World) (ha : BytR w (fun _ => False) va a) (hb : BytR w (fun _ => False) vb b) (hc : BytR w (fun _ => False) vc c) (hal : a.length ≤ 2000000000000000000) (hbl : b.length ≤ 2000000000000000000) (hcl : c.length ≤ 2000000000000000000) :
    Calls Try.prog 10 #[va, vb, vc] w fun e w' => e = .returned (.bool true) ∧ Below w.heap.size w w' := by
  obtain ⟨aa, na, ca, rfl⟩ : ∃ ao n c, va = .slice ao n c := by obtain ⟨_, _, ao, c, e, _⟩ := ha; exact ⟨ao, _, c, e⟩
  obtain ⟨ab, nb, cb, rfl⟩ : ∃ ao n c, vb = .slice ao n c := by obtain ⟨_, _, ao, c, e, _⟩ := hb; exact ⟨ao, _, c, e⟩
  obtain ⟨ac, nc, cc, rfl⟩ : ∃ ao n c, vc = .slice ao n c := by obtain ⟨_, _, ao, c, e, _⟩ := hc; exact ⟨ao, _, c, e⟩
  have hna := ha.get.1
  have hnb := hb.get.1
  have hnc := hc.get.1
  rw [← hna] at hal
  rw [← hnb] at hbl
  rw [← hnc] at hcl
  have HA := Lib.hid ha; have HB := Lib.hid hb; have HC := Lib.hid hc; have HNA := Lib.hid hna; have HNB := Lib.hid hnb; have HNC := Lib.hid hnc
  clear ha hb hc hna hnb hnc
  go_enter Try.func10, Try.ntmps10
  go_wp2_with fail
  refine (awake4 w).mono ?_
  rintro e w1 ⟨rfl, x1⟩
  have G1 := Lib.hid (show Grow (fun _ => False) w (fun _ => False) w1 from ⟨x1, fun _ h => .inl h⟩)
  clear x1
  by_cases hbig : (na : Int) + nb + nc > 4000
  · go_wp2
    go_ret
    exact ⟨rfl, G1.out.chg.below (fun _ h => h.elim) (Nat.le_refl _)⟩
  · -- what each step comes to
    have hsz : (Dsk.new 80).size = 80 := new_size 80 (by decide) (by decide)
    obtain ⟨L0, hop0, up0⟩ := up_new 80 (by decide) (by decide)
    have hst0 : L0.st = [] := up0.st
    obtain ⟨L1, ha1, up1, hl1, _⟩ := up0.append (r := a) (by rw [hst0, hsz]; have := HNA.out; simp; omega) HA.out.1
    obtain ⟨f1, k1, up2, st2, _, z2⟩ := up1.flushC (new_calm 80) (by decide)
    have by2 : (flushR (Dsk.new 80) L1).2.1.byt := byt_flush (byt_new 80) (by rw [up1.st]; exact flatF_bytes up1.ok)
    have HOP0 := Lib.hid hop0; have UP0 := Lib.hid up0; have HA1 := Lib.hid ha1; have UP1 := Lib.hid up1; have F1 := Lib.hid f1; have BY2 := Lib.hid by2
    generalize hD2 : (flushR (Dsk.new 80) L1).2.1 = D2 at *
    generalize hL2 : (flushR (Dsk.new 80) L1).2.2 = L2 at *
    have UP2 := Lib.hid (show LogUp D2 L2 [a] 1 1 from up2)
    have K2 := Lib.hid k1; have Z2 := Lib.hid (z2.trans hsz); have HD2 := Lib.hid hD2; have HL2 := Lib.hid hL2
    clear hop0 up0 ha1 up1 f1 k1 up2 st2 z2 by2 hD2 hL2 hl1 hst0
    go_wp2_with fail
    refine (zd_new 80 w1).mono ?_
    rintro e w2 ⟨r, Z1, rfl, d1, g1⟩
    have D1 := Lib.hid d1; have G2 := Lib.hid (G1.out.trans g1)
    clear d1 g1
    go_wp2_with fail
    refine (zd_open_ok D1.out (byt_new 80).now HOP0.out).mono ?_
    rintro e w3 ⟨l, v3, Z3, rfl, n3, _, g3, _⟩
    have N3 := Lib.hid n3; have G3 := Lib.hid (G2.out.trans g3)
    clear n3 g3
    go_wp2_with fail
    refine (zn_append N3.out _ a (HA.out.grow G3.out)).mono ?_
    rintro e w4 ⟨Z4, rfl, n4, g4⟩
    rw [HA1.out] at n4
    rw [HA1.out]
    have N4 := Lib.hid n4; have G4 := Lib.hid (G3.out.trans g4)
    clear n4 g4
    go_wp2_with fail
    refine (zn_flush N4.out (by rw [hsz]; decide) UP1.out.room (by decide)).mono ?_
    rintro e w5 ⟨Z5, rfl, n5, g5⟩
    rw [F1.out]
    rw [HD2.out, HL2.out] at n5
    have N5 := Lib.hid n5; have G5 := Lib.hid (G4.out.trans g5)
    clear n5 g5
    obtain ⟨L3, hop3, up3⟩ := UP2.out.opens N5.out.h64
    have HOP3 := Lib.hid (show openR D2 = (0, some (L3, [a])) from hop3); have UP3 := Lib.hid (show LogUp D2 L3 [a] 1 1 from up3)
    clear hop3 up3
    go_wp2_with fail
    refine (zd_open_ok N5.out.zd BY2.out.now HOP3.out).mono ?_
    rintro e w6 ⟨l6, v6, Z6, rfl, n6, _, g6, _⟩
    have N6 := Lib.hid n6; have G6 := Lib.hid (G5.out.trans g6)
    clear n6 g6
    obtain ⟨L4, ha4, up4, hl4, _⟩ := UP3.out.append (r := b) (by rw [UP3.out.st, flatF_len1, Z2.out]; have := HNA.out; have := HNB.out; omega) HB.out.1
    obtain ⟨f4, k4, up5, st5, _, z5⟩ := up4.flushC K2.out (by decide)
    have by5 : (flushR D2 L4).2.1.byt := byt_flush BY2.out (by rw [up4.st]; exact flatF_bytes up4.ok)
    have HA4 := Lib.hid ha4; have UP4 := Lib.hid up4; have F4 := Lib.hid f4; have BY5 := Lib.hid by5
    generalize hD5 : (flushR D2 L4).2.1 = D5 at *
    generalize hL5 : (flushR D2 L4).2.2 = L5 at *
    have UP5 := Lib.hid (show LogUp D5 L5 [a, b] 2 2 from up5)
    have K5 := Lib.hid k4; have Z5' := Lib.hid (z5.trans Z2.out); have HD5 := Lib.hid hD5; have HL5 := Lib.hid hL5
    clear ha4 up4 f4 k4 up5 st5 z5 by5 hD5 hL5 hl4
    go_wp2_with fail
    refine (zn_append N6.out _ b (HB.out.grow G6.out)).mono ?_
    rintro e w7 ⟨Z7, rfl, n7, g7⟩
    rw [HA4.out] at n7
    rw [HA4.out]
    have N7 := Lib.hid n7; have G7 := Lib.hid (G6.out.trans g7)
    clear n7 g7
    go_wp2_with fail
    refine (zn_flush N7.out (by rw [Z2.out]; decide) UP4.out.room (by rw [UP4.out.live.wait]; decide)).mono ?_
    rintro e w8 ⟨Z8, rfl, n8, g8⟩
    rw [F4.out]
    rw [HD5.out, HL5.out] at n8
    have N8 := Lib.hid n8; have G8 := Lib.hid (G7.out.trans g8)
    clear n8 g8
    obtain ⟨L6, hop6, up6⟩ := UP5.out.opens N8.out.h64
    have HOP6 := Lib.hid (show openR D5 = (0, some (L6, [a, b])) from hop6); have UP6 := Lib.hid (show LogUp D5 L6 [a, b] 2 2 from up6)
    clear hop6 up6
    go_wp2_with fail
    refine (zd_open_ok N8.out.zd BY5.out.now HOP6.out).mono ?_
    rintro e w9 ⟨l9, v9, Z9, rfl, n9, r9, g9, _⟩
    have N9 := Lib.hid n9; have G9 := Lib.hid (G8.out.trans g9)
    clear n9 g9
    obtain ⟨f6, k6, up7, st7, z7⟩ := UP6.out.resetC K5.out (by decide)
    have by7 : (sealR D5 L6 0).2.1.byt := byt_seal BY5.out _ _
    have F6 := Lib.hid f6; have BY7 := Lib.hid by7
    generalize hD7 : (sealR D5 L6 0).2.1 = D7 at *
    generalize hL7 : (sealR D5 L6 0).2.2 = L7 at *
    have UP7 := Lib.hid (show LogUp D7 L7 [] 0 3 from up7)
    have K7 := Lib.hid k6; have Z7' := Lib.hid (z7.trans Z5'.out); have HD7 := Lib.hid hD7; have HL7 := Lib.hid hL7; have ST7 := Lib.hid (show L7.st.length = 0 by rw [st7]; rfl)
    obtain ⟨L8, ha8, up8, _, _⟩ := UP7.out.append (r := c) (by rw [ST7.out, Z7'.out]; have := HNC.out; omega) HC.out.1
    obtain ⟨f8, k8, up9, st9, _, z9⟩ := up8.flushC K7.out (by decide)
    have by9 : (flushR D7 L8).2.1.byt := byt_flush BY7.out (by rw [up8.st]; exact flatF_bytes up8.ok)
    have HA8 := Lib.hid ha8; have UP8 := Lib.hid up8; have F8 := Lib.hid f8; have BY9 := Lib.hid by9
    generalize hD9 : (flushR D7 L8).2.1 = D9 at *
    generalize hL9 : (flushR D7 L8).2.2 = L9 at *
    have UP9 := Lib.hid (show LogUp D9 L9 [c] 1 4 from up9)
    have HD9 := Lib.hid hD9; have HL9 := Lib.hid hL9
    clear f6 k6 up7 st7 z7 by7 hD7 hL7 ha8 up8 f8 k8 up9 st9 z9 by9 hD9 hL9
    obtain ⟨_, p9, pc9, rfl, hp9⟩ := r9
    obtain ⟨pb, po, rfl, hpo, hpc⟩ := hp9 (by simp)
    obtain ⟨u0, hu0, hub0⟩ := hpc 0 (by simp)
    obtain ⟨u1, hu1, hub1⟩ := hpc 1 (by simp)
    have RD9 := Lib.hid (show Rd2 w9 Z9 pb po u0 u1 (.slice aa na ca) (.slice ab nb cb) a b from ⟨hpo, hu0, hu1, hub0, hub1, HA.out.grow G9.out, HB.out.grow G9.out⟩)
    clear hp9 hpc hu0 hu1 hub0 hub1 hpo
    go_wp2_with fail
    refine wp_region_lex (fun w' => ∃ Z, Rd2 w' Z pb po u0 u1 (.slice aa na ca) (.slice ab nb cb) a b) 99 [27, 32, 38, 43] [0, 1, 2, 3, 4, 5, 6, 7, 8, 9, 10, 11, 12, 13, 14, 15, 16, 17, 18, 19, 20, 21, 22, 23, 24, 25, 26, 27, 28, 29, 30, 31, 32, 33, 34, 35, 36, 37, 38, 39, 40, 41, 42, 43, 44, 45] (by kernel_rfl) (by kernel_rfl) ⟨Z9, RD9.out.grow (Grow.refl _ _).drew⟩ ?_
    iterate 3
      refine' lex_free (v := _) rfl rfl rfl ?_ (fun _ _ _ h => h) ?_
      rotate_left
      · rintro W ⟨Z, _, q0, q1, _, _, _, _⟩
        go_simp
        with_reducible rfl
      try simp only [Act.put, List.setIfInBounds_toArray, List.set_cons_zero, List.set_cons_succ]
    iterate 3
      refine' lex_freeG (v := _) rfl rfl rfl ?_ (fun _ _ _ h => h) ?_
      rotate_left
      · rintro W ⟨Z, _, q0, q1, _, _, _, _⟩
        go_simp
        with_reducible rfl
      try simp only [Act.put, List.setIfInBounds_toArray, List.set_cons_zero, List.set_cons_succ]
    iterate 2
      refine' lex_free (v := _) rfl rfl rfl ?_ (fun _ _ _ h => h) ?_
      rotate_left
      · rintro W ⟨Z, _, q0, q1, _, _, _, _⟩
        go_simp
        with_reducible rfl
      try simp only [Act.put, List.setIfInBounds_toArray, List.set_cons_zero, List.set_cons_succ]
    iterate 3
      refine' lex_freeG (v := _) rfl rfl rfl ?_ (fun _ _ _ h => h) ?_
      rotate_left
      · rintro W ⟨Z, _, q0, q1, _, _, _, _⟩
        go_simp
        with_reducible rfl
      try simp only [Act.put, List.setIfInBounds_toArray, List.set_cons_zero, List.set_cons_succ]
    refine lex_freeG (v := .string (strOfNums a)) rfl rfl rfl (fun W ⟨Z, hW⟩ => exec_conv rfl rfl (hW.b0.conv 9 Try.underlying9)) (fun _ _ _ h => h) ?_
    try simp only [Act.put, List.setIfInBounds_toArray, List.set_cons_zero, List.set_cons_succ]
    iterate 1
      refine' lex_freeG (v := _) rfl rfl rfl ?_ (fun _ _ _ h => h) ?_
      rotate_left
      · rintro W ⟨Z, _, q0, q1, _, _, _, _⟩
        go_simp
        with_reducible rfl
      try simp only [Act.put, List.setIfInBounds_toArray, List.set_cons_zero, List.set_cons_succ]
    refine lex_freeG (v := .string (strOfNums a)) rfl rfl rfl (fun W ⟨Z, hW⟩ => exec_conv rfl rfl (hW.ba.conv 9 Try.underlying9)) (fun _ _ _ h => h) ?_
    try simp only [Act.put, List.setIfInBounds_toArray, List.set_cons_zero, List.set_cons_succ]
    refine lex_freeG (v := .bool false) rfl rfl rfl (fun W ⟨Z, hW⟩ => by go_simp) (fun _ _ _ h => h) ?_
    try simp only [Act.put, List.setIfInBounds_toArray, List.set_cons_zero, List.set_cons_succ]
    iterate 2
      refine' lex_free (v := _) rfl rfl rfl ?_ (fun _ _ _ h => h) ?_
      rotate_left
      · rintro W ⟨Z, _, q0, q1, _, _, _, _⟩
        go_simp
        with_reducible rfl
      try simp only [Act.put, List.setIfInBounds_toArray, List.set_cons_zero, List.set_cons_succ]
    iterate 3
      refine' lex_freeG (v := _) rfl rfl rfl ?_ (fun _ _ _ h => h) ?_
      rotate_left
      · rintro W ⟨Z, _, q0, q1, _, _, _, _⟩
        go_simp
        with_reducible rfl
      try simp only [Act.put, List.setIfInBounds_toArray, List.set_cons_zero, List.set_cons_succ]
    refine lex_freeG (v := .string (strOfNums b)) rfl rfl rfl (fun W ⟨Z, hW⟩ => exec_conv rfl rfl (hW.b1.conv 9 Try.underlying9)) (fun _ _ _ h => h) ?_
    try simp only [Act.put, List.setIfInBounds_toArray, List.set_cons_zero, List.set_cons_succ]
    iterate 1
      refine' lex_freeG (v := _) rfl rfl rfl ?_ (fun _ _ _ h => h) ?_
      rotate_left
      · rintro W ⟨Z, _, q0, q1, _, _, _, _⟩
        go_simp
        with_reducible rfl
      try simp only [Act.put, List.setIfInBounds_toArray, List.set_cons_zero, List.set_cons_succ]
    refine lex_freeG (v := .string (strOfNums b)) rfl rfl rfl (fun W ⟨Z, hW⟩ => exec_conv rfl rfl (hW.bb.conv 9 Try.underlying9)) (fun _ _ _ h => h) ?_
    try simp only [Act.put, List.setIfInBounds_toArray, List.set_cons_zero, List.set_cons_succ]
    refine lex_freeG (v := .bool false) rfl rfl rfl (fun W ⟨Z, hW⟩ => by go_simp) (fun _ _ _ h => h) ?_
    try simp only [Act.put, List.setIfInBounds_toArray, List.set_cons_zero, List.set_cons_succ]
    iterate 2
      refine' lex_free (v := _) rfl rfl rfl ?_ (fun _ _ _ h => h) ?_
      rotate_left
      · rintro W ⟨Z, _, q0, q1, _, _, _, _⟩
        go_simp
        with_reducible rfl
      try simp only [Act.put, List.setIfInBounds_toArray, List.set_cons_zero, List.set_cons_succ]
    iterate 1
      refine' lex_freeG (v := _) rfl rfl rfl ?_ (fun _ _ _ h => h) ?_
      rotate_left
      · rintro W ⟨Z, _, q0, q1, _, _, _, _⟩
        go_simp
        with_reducible rfl
      try simp only [Act.put, List.setIfInBounds_toArray, List.set_cons_zero, List.set_cons_succ]
    refine lex_opG rfl rfl rfl (fun K hK => ?_)
    go_simp
    refine (zn_reset (N9.out.quiet (Chg.refl _ w9).drew) (by rw [Z5'.out]; decide) (by rw [UP5.out.live.wait]; decide)).mono ?_
    rintro e w10 ⟨Z10, rfl, n10, g10⟩
    rw [F6.out]
    rw [HD7.out, HL7.out] at n10
    have RD10 := Lib.hid ((RD9.out.grow (Grow.refl _ _).drew).grow g10)
    have N10 := Lib.hid n10; have G10 := Lib.hid (G9.out.drew.trans g10)
    clear n10 g10
    refine hK _ _ (fun _ => ⟨Z10, RD10.out⟩) ?_
    clear hK K
    try simp only [Act.put, List.setIfInBounds_toArray, List.set_cons_zero, List.set_cons_succ]
    iterate 1
      refine' lex_freeG (v := _) rfl rfl rfl ?_ (fun _ _ _ h => h) ?_
      rotate_left
      · rintro W ⟨Z, _, q0, q1, _, _, _, _⟩
        go_simp
        with_reducible rfl
      try simp only [Act.put, List.setIfInBounds_toArray, List.set_cons_zero, List.set_cons_succ]
    iterate 2
      refine' lex_free (v := _) rfl rfl rfl ?_ (fun _ _ _ h => h) ?_
      rotate_left
      · rintro W ⟨Z, _, q0, q1, _, _, _, _⟩
        go_simp
        with_reducible rfl
      try simp only [Act.put, List.setIfInBounds_toArray, List.set_cons_zero, List.set_cons_succ]
    iterate 1
      refine' lex_freeG (v := _) rfl rfl rfl ?_ (fun _ _ _ h => h) ?_
      rotate_left
      · rintro W ⟨Z, _, q0, q1, _, _, _, _⟩
        go_simp
        with_reducible rfl
      try simp only [Act.put, List.setIfInBounds_toArray, List.set_cons_zero, List.set_cons_succ]
    refine lex_opG rfl rfl rfl (fun K hK => ?_)
    go_simp
    refine (zn_used N10.out).mono ?_
    rintro e w11 ⟨rfl, rfl⟩
    rw [ST7.out]
    refine hK _ _ (fun _ => ⟨Z10, RD10.out⟩) ?_
    clear hK K
    try simp only [Act.put, List.setIfInBounds_toArray, List.set_cons_zero, List.set_cons_succ]
    iterate 1
      refine' lex_freeG (v := _) rfl rfl rfl ?_ (fun _ _ _ h => h) ?_
      rotate_left
      · rintro W ⟨Z, _, q0, q1, _, _, _, _⟩
        go_simp
        with_reducible rfl
      try simp only [Act.put, List.setIfInBounds_toArray, List.set_cons_zero, List.set_cons_succ]
    iterate 2
      refine' lex_free (v := _) rfl rfl rfl ?_ (fun _ _ _ h => h) ?_
      rotate_left
      · rintro W ⟨Z, _, q0, q1, _, _, _, _⟩
        go_simp
        with_reducible rfl
      try simp only [Act.put, List.setIfInBounds_toArray, List.set_cons_zero, List.set_cons_succ]
    iterate 2
      refine' lex_freeG (v := _) rfl rfl rfl ?_ (fun _ _ _ h => h) ?_
      rotate_left
      · rintro W ⟨Z, _, q0, q1, _, _, _, _⟩
        go_simp
        with_reducible rfl
      try simp only [Act.put, List.setIfInBounds_toArray, List.set_cons_zero, List.set_cons_succ]
    refine lex_opG rfl rfl rfl (fun K hK => ?_)
    go_simp
    refine (zn_append N10.out _ c (HC.out.grow G10.out)).mono ?_
    rintro e w11 ⟨Z11, rfl, n11, g11⟩
    rw [HA8.out] at n11
    rw [HA8.out]
    have RD11 := Lib.hid (RD10.out.grow g11)
    have N11 := Lib.hid n11; have G11 := Lib.hid (G10.out.trans g11)
    clear n11 g11
    refine hK _ _ (fun _ => ⟨Z11, RD11.out⟩) ?_
    clear hK K
    iterate 1
      refine' lex_freeG (v := _) rfl rfl rfl ?_ (fun _ _ _ h => h) ?_
      rotate_left
      · rintro W ⟨Z, _, q0, q1, _, _, _, _⟩
        go_simp
        with_reducible rfl
      try simp only [Act.put, List.setIfInBounds_toArray, List.set_cons_zero, List.set_cons_succ]
    iterate 2
      refine' lex_free (v := _) rfl rfl rfl ?_ (fun _ _ _ h => h) ?_
      rotate_left
      · rintro W ⟨Z, _, q0, q1, _, _, _, _⟩
        go_simp
        with_reducible rfl
      try simp only [Act.put, List.setIfInBounds_toArray, List.set_cons_zero, List.set_cons_succ]
    iterate 1
      refine' lex_freeG (v := _) rfl rfl rfl ?_ (fun _ _ _ h => h) ?_
      rotate_left
      · rintro W ⟨Z, _, q0, q1, _, _, _, _⟩
        go_simp
        with_reducible rfl
      try simp only [Act.put, List.setIfInBounds_toArray, List.set_cons_zero, List.set_cons_succ]
    refine lex_opG rfl rfl rfl (fun K hK => ?_)
    go_simp
    refine (zn_flush N11.out (by rw [Z7'.out]; decide) UP8.out.room (by rw [UP8.out.live.wait]; decide)).mono ?_
    rintro e w12 ⟨Z12, rfl, n12, g12⟩
    rw [F8.out]
    rw [HD9.out, HL9.out] at n12
    have RD12 := Lib.hid (RD11.out.grow g12)
    have N12 := Lib.hid n12; have G12 := Lib.hid (G11.out.trans g12)
    clear n12 g12
    refine hK _ _ (fun _ => ⟨Z12, RD12.out⟩) ?_
    clear hK K
    try simp only [Act.put, List.setIfInBounds_toArray, List.set_cons_zero, List.set_cons_succ]
    iterate 1
      refine' lex_freeG (v := _) rfl rfl rfl ?_ (fun _ _ _ h => h) ?_
      rotate_left
      · rintro W ⟨Z, _, q0, q1, _, _, _, _⟩
        go_simp
        with_reducible rfl
      try simp only [Act.put, List.setIfInBounds_toArray, List.set_cons_zero, List.set_cons_succ]
    iterate 1
      refine' lex_free (v := _) rfl rfl rfl ?_ (fun _ _ _ h => h) ?_
      rotate_left
      · rintro W ⟨Z, _, q0, q1, _, _, _, _⟩
        go_simp
        with_reducible rfl
      try simp only [Act.put, List.setIfInBounds_toArray, List.set_cons_zero, List.set_cons_succ]
    refine lex_nil ?_
    obtain ⟨L13, hop13, _⟩ := UP9.out.opens N12.out.h64
    have HOP13 := Lib.hid (show openR D9 = (0, some (L13, [c])) from hop13)
    clear hop13
    go_wp2_with fail
    refine (zd_open_ok N12.out.zd BY9.out.now HOP13.out).mono ?_
    rintro e w13 ⟨l13, v13, Z13, rfl, _, r13, g13, _⟩
    have G13 := Lib.hid (G12.out.trans g13)
    clear g13
    obtain ⟨_, p13, pc13, rfl, hp13⟩ := r13
    obtain ⟨pb2, po2, rfl, hpo2, hpc2⟩ := hp13 (by simp)
    obtain ⟨u2, hu2, hub2⟩ := hpc2 0 (by simp)
    have RC := Lib.hid (HC.out.grow G13.out); have RU := Lib.hid hub2; have CU := Lib.hid hu2
    clear hp13 hpc2 hu2 hub2 hpo2
    go_wp2_with fail
    refine wp_region_lex (fun w' => w'.cell? ⟨pb2, po2, none⟩ = some u2 ∧ BytR w' Z13 u2 c ∧ BytR w' Z13 (.slice ac nc cc) c) 99 [] [0, 1, 2, 3, 4, 5, 6, 7, 8, 9, 10, 11, 12, 13, 14, 15, 16] (by kernel_rfl) (by kernel_rfl) ⟨CU.out, RU.out, RC.out⟩ ?_
    iterate 3
      refine' lex_free (v := _) rfl rfl rfl ?_ (fun _ _ _ h => h) ?_
      rotate_left
      · rintro W ⟨q0, _, _⟩
        go_simp
        with_reducible rfl
      try simp only [Act.put, List.setIfInBounds_toArray, List.set_cons_zero, List.set_cons_succ]
    iterate 3
      refine' lex_freeG (v := _) rfl rfl rfl ?_ (fun _ _ _ h => h) ?_
      rotate_left
      · rintro W ⟨q0, _, _⟩
        go_simp
        with_reducible rfl
      try simp only [Act.put, List.setIfInBounds_toArray, List.set_cons_zero, List.set_cons_succ]
    iterate 2
      refine' lex_free (v := _) rfl rfl rfl ?_ (fun _ _ _ h => h) ?_
      rotate_left
      · rintro W ⟨q0, _, _⟩
        go_simp
        with_reducible rfl
      try simp only [Act.put, List.setIfInBounds_toArray, List.set_cons_zero, List.set_cons_succ]
    iterate 3
      refine' lex_freeG (v := _) rfl rfl rfl ?_ (fun _ _ _ h => h) ?_
      rotate_left
      · rintro W ⟨q0, _, _⟩
        go_simp
        with_reducible rfl
      try simp only [Act.put, List.setIfInBounds_toArray, List.set_cons_zero, List.set_cons_succ]
    refine lex_freeG (v := .string (strOfNums c)) rfl rfl rfl (fun W hW => exec_conv rfl rfl (hW.2.1.conv 9 Try.underlying9)) (fun _ _ _ h => h) ?_
    try simp only [Act.put, List.setIfInBounds_toArray, List.set_cons_zero, List.set_cons_succ]
    iterate 1
      refine' lex_freeG (v := _) rfl rfl rfl ?_ (fun _ _ _ h => h) ?_
      rotate_left
      · rintro W ⟨q0, _, _⟩
        go_simp
        with_reducible rfl
      try simp only [Act.put, List.setIfInBounds_toArray, List.set_cons_zero, List.set_cons_succ]
    refine lex_freeG (v := .string (strOfNums c)) rfl rfl rfl (fun W hW => exec_conv rfl rfl (hW.2.2.conv 9 Try.underlying9)) (fun _ _ _ h => h) ?_
    try simp only [Act.put, List.setIfInBounds_toArray, List.set_cons_zero, List.set_cons_succ]
    refine lex_freeG (v := .bool true) rfl rfl rfl (fun W hW => by go_simp) (fun _ _ _ h => h) ?_
    try simp only [Act.put, List.setIfInBounds_toArray, List.set_cons_zero, List.set_cons_succ]
    iterate 2
      refine' lex_free (v := _) rfl rfl rfl ?_ (fun _ _ _ h => h) ?_
      rotate_left
      · rintro W ⟨q0, _, _⟩
        go_simp
        with_reducible rfl
      try simp only [Act.put, List.setIfInBounds_toArray, List.set_cons_zero, List.set_cons_succ]
    refine lex_nil ?_
    go_wp2
    go_ret
    exact ⟨rfl, G13.out.drew.chg.below (fun _ h => h.elim) (Nat.le_refl _)⟩
end Go.Proofs.Ytihpobpkhhkejaa
