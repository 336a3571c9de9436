/-
  The walk of MvccSees: it returns true, for every two scripts. Condition: they are read as they came in.
-/
import Derived.Test.YtfegpmbgcocldaaMListB
import Derived.Test.YtfegpmbgcocldaaMPlays
import Derived.Deep.DeepCutAuto
set_option autoImplicit false
namespace Go.Proofs.Ytfegpmbgcocldaa
open Go Go.RowKit

set_option maxRecDepth 100000 in
set_option maxHeartbeats 8000000 in
theorem sees_walk (a1 a2 : Option Addr) (l1 c1 l2 c2 : Nat) (K1 T1 U1 K2 T2 U2 : Nat → Int) (w : World) (hm1 : l1 ≤ 9223372036854775807) (hm2 : l2 ≤ 9223372036854775807) (hp1 : SlRd w a1 l1 3 (opsV K1 T1 U1)) (hp2 : SlRd w a2 l2 3 (opsV K2 T2 U2)) :
    Calls Try.prog 4 #[.slice a1 l1 c1, .slice a2 l2 c2] w fun e w' => e = .returned (.bool true) ∧ Below w.heap.size w w' := by
  have HP1 := Lib.hid hp1; have HP2 := Lib.hid hp2
  clear hp1 hp2
  go_enter Try.func4, Try.ntmps4
  go_wp2_with (go_at_call 13; refine (awake19 _).mono ?_; rintro e w1 ⟨rfl, x1⟩)
  have X1 := Lib.hid x1
  clear x1
  go_wp2_with fail
  refine (new_ok 1 200 none 0 0 noV w1 (by omega) (rd_none _ _ _) (newOk_none 200 (by decide) (by decide))).mono ?_
  rintro e w2 ⟨r, rfl, b2, x2⟩
  rw [start_none] at b2
  have z1 := X1.out.size
  have z2 := x2.size
  obtain ⟨F, hFe⟩ : ∃ F, F = Ext (fun _ => False) w1 w2 := ⟨_, rfl⟩
  have hF1 : ∀ k, F k → w.heap.size ≤ k ∧ k < w2.heap.size := fun k hk => by
    rw [hFe] at hk
    rcases hk with hk | hk
    · exact hk.elim
    · omega
  rw [← hFe] at b2
  have HF := Lib.hid hF1; have B2 := Lib.hid b2
  have FX2 := Lib.hid (show From0 w w2 from (X1.out.trans x2 (fun _ h => h.elim)).mono (fun _ h => h.elim))
  clear hFe hF1 b2 x2
  go_wp2_with fail
  refine (plays_any r F _ w w2 a1 l1 c1 K1 T1 U1 hm1 HP1.out FX2.out (fun k hk => (HF.out k hk).1) B2.out (by decide)).mono ?_
  rintro e w3 ⟨rfl, n3, B3, hn3, st3, b3, x3⟩
  have hb3 := st3.bounds
  have W3 := Lib.hid ((wf_new 200 (by decide) (by decide)).steps st3)
  simp only at hb3
  have m3 : B3.most = 200 := hb3.2.2.1
  have f3 : B3.first = 1 := hb3.2.2.2.1
  have nx3 : B3.next ≤ 61 := by omega
  have sp3 : B3.step ≤ 60 := by omega
  have nn3 := W3.out.ok.n1
  have HB3 := Lib.hid b3; have FX3 := Lib.hid (show From0 w w3 from Chg.trans FX2.out x3 (fun k hk => .inl (HF.out k hk).1))
  have z3 := x3.size
  have M3 := Lib.hid m3; have F3 := Lib.hid f3
  clear st3 b3 x3 hb3 m3 f3
  go_wp2_with fail
  refine (committed_any r F B3 w3 HB3.out).mono ?_
  rintro e w4 ⟨v7, rfl, hv7, x4⟩
  have V7 := Lib.hid hv7; have HB4 := Lib.hid (HB3.out.quiet x4); have FX4 := Lib.hid (show From0 w w4 from Chg.trans FX3.out x4 (fun _ h => h.elim))
  clear hv7 x4
  go_wp2_with fail
  refine (begin_ok r F B3 w4 HB4.out (by have := M3.out; omega) (by omega)).mono ?_
  rintro e w5 ⟨rfl, b5, x5⟩
  have HB5 := Lib.hid b5; have FX5 := Lib.hid (show From0 w w5 from Chg.trans FX4.out x5 (fun k hk => .inl (HF.out k hk).1))
  have V5 := Lib.hid (Ints.chg V7.out x5 (fun g hg hf => by have := V7.out.lo g hg; have := (HF.out g hf).2; omega))
  have SN5 := Lib.hid (Snap.start W3.out F3.out (by have := M3.out; omega))
  have LS := Lib.hid (list_sorted B3 2)
  have M5 := Lib.hid (show B3.begin.most = 200 from M3.out)
  have s5 : B3.begin.step ≤ 100 := by show B3.step + 1 ≤ 100; omega
  have x5n : B3.begin.next ≤ 100 := by show B3.next + 1 ≤ 100; omega
  clear b5 x5
  generalize B3.begin = B5 at *
  generalize B3.list 2 = done at *
  generalize hbg : B3.step + 1 = bg at *
  generalize B3.next = t at *
  obtain ⟨a7, cap7, rfl, hf7⟩ := V5.out.form
  have F7 := Lib.hid hf7
  clear hf7 hbg
  go_wp2
  go_loopw [10] (fun s10 wr => ∃ (i : Nat) (C : Bk), i ≤ 2 ∧ s10 = .int .i64 i ∧ BookAt wr r F C ∧ Snap C t bg done ∧ C.step ≤ 100 + 60 * i ∧ C.next ≤ 100 + 60 * i ∧ Ints wr w3.heap.size (.slice a7 done.length cap7) done ∧ From0 w wr) (fun s10 _ => 2 - (intOf s10).toNat)
  case atStart => exact ⟨0, B5, by omega, rfl, HB5.out, SN5.out, by omega, by omega, V5.out, FX5.out⟩
  case round =>
    clear HB5 SN5 V5 FX5 V7 FX4 HB4 FX3 HB3 W3 M3 F3 B2 FX2
    obtain ⟨i, C, hi, rfl, hb, hsn, hst, hnx, hv, hx⟩ := hrel
    have BK0 := Lib.hid hb; have SN := Lib.hid hsn; have HV := Lib.hid hv; have HX := Lib.hid hx
    clear hb hsn hv hx
    by_cases hlt : i < 2
    · have hd2 : decide ((i : Int) < 2) = true := by simp; omega
      go_wp2
      obtain ⟨wo, hwo⟩ : ∃ wo : World, wo = wr := ⟨_, rfl⟩
      subst hwo
      have ht1 := SN.out.t1
      have hcn := SN.out.wf.ok.n1
      go_loopw [11, 12] (fun s11 s12 wx => ∃ u : Int, 1 ≤ u ∧ u ≤ C.next ∧ s11 = .int .i64 (cnt done u) ∧ s12 = .int .i64 u ∧ Chg (fun _ => False) wo wx) (fun _ s12 _ => C.next.toNat - (intOf s12).toNat)
      case atStart => exact ⟨1, Int.le_refl _, hcn, by rw [cnt_one (fun u hu => (SN.out.lt u hu).1)], rfl, Chg.refl _ _⟩
      case round =>
        obtain ⟨u, hu1, hu2, rfl, rfl, hxq⟩ := hrel
        have BK := Lib.hid (BK0.out.quiet hxq)
        have XQ := Lib.hid hxq
        clear hxq
        by_cases hul : u < C.next
        · have hcs := cnt_succ done (n := u) (by omega)
          have hcl := cnt_le done u
          have HCS := Lib.hid hcs
          have X0 := Lib.hid (Chg.refl (fun _ => False) wr)
          have hsee := SN.out.sees hu1 hul
          clear hcs
          by_cases hut : u = t
          · subst hut
            have e1 : C.sees u u = true := by rw [hsee]; simp
            have e2 : C.conc u u = false := by unfold Bk.conc; rw [if_pos (.inl rfl)]
            have e3 : u ∉ done := fun h => by have := (SN.out.lt u h).2; omega
            have HC := Lib.hid (show cnt done (u + 1) = cnt done u by rw [HCS.out, if_neg e3]; omega)
            have E1 := Lib.hid e1; have E2 := Lib.hid e2
            clear e1 e2 e3 hsee
            go_wp2_with (go_at_call 22; refine (next_any r F C _ BK.out).mono ?_; rintro e wN ⟨rfl, rfl⟩)
            refine (sees_any r F C _ u u (BK.out.quiet X0.out)).mono ?_
            rintro e w1 ⟨rfl, x⟩
            have X1 := Lib.hid (X0.out.trans x (fun _ h => h.elim))
            clear x
            rw [E1.out]
            go_wp2_with fail
            refine (conc_any r F C _ u u (BK.out.quiet X1.out)).mono ?_
            rintro e w2 ⟨rfl, x⟩
            have X2 := Lib.hid (X1.out.trans x (fun _ h => h.elim))
            clear x
            rw [E2.out]
            go_wp2_with fail
            refine (sees_any r F C _ u u (BK.out.quiet X2.out)).mono ?_
            rintro e w3 ⟨rfl, x⟩
            have X3 := Lib.hid (X2.out.trans x (fun _ h => h.elim))
            clear x
            rw [E1.out]
            go_wp2_with fail
            refine (sees_any r F C _ u u (BK.out.quiet X3.out)).mono ?_
            rintro e w4 ⟨rfl, x⟩
            have X4 := Lib.hid (X3.out.trans x (fun _ h => h.elim))
            clear x
            rw [E1.out]
            go_wp2
            go_roundw
            case rel => exact ⟨u + 1, by omega, by omega, by rw [HC.out], rfl, XQ.out.trans X4.out (fun _ h => h.elim)⟩
            case measure => simp [intOf]; omega
          · have e0 : (t == u) = false := by simpa using fun h => hut h.symm
            have q0 : (u != t) = true := by simpa using hut
            have q1 : (t != u) = true := by simpa using fun h => hut h.symm
            rw [e0, Bool.false_or] at hsee
            by_cases hud : u ∈ done
            · have e1 : C.sees t u = true := by rw [hsee]; simpa using hud
              have e2 : C.conc t u = false := by
                cases hc : C.conc t u with
                | false => rfl
                | true => rw [(conc_not hc).1] at e1; cases e1
              have e3 : C.sees u t = false := by
                cases hc : C.sees u t with
                | false => rfl
                | true => exact (SN.out.wf.both (fun h => hut h.symm) e1 hc).elim
              have HC := Lib.hid (show cnt done (u + 1) = cnt done u + 1 by rw [HCS.out, if_pos hud])
              have E1 := Lib.hid e1; have E2 := Lib.hid e2; have E3 := Lib.hid e3
              clear e1 e2 e3 hsee hud
              go_wp2_with (go_at_call 22; refine (next_any r F C _ BK.out).mono ?_; rintro e wN ⟨rfl, rfl⟩)
              refine (sees_any r F C _ t u (BK.out.quiet X0.out)).mono ?_
              rintro e w1 ⟨rfl, x⟩
              have X1 := Lib.hid (X0.out.trans x (fun _ h => h.elim))
              clear x
              rw [E1.out]
              go_wp2_with fail
              refine (conc_any r F C _ t u (BK.out.quiet X1.out)).mono ?_
              rintro e w2 ⟨rfl, x⟩
              have X2 := Lib.hid (X1.out.trans x (fun _ h => h.elim))
              clear x
              rw [E2.out]
              go_wp2_with fail
              refine (sees_any r F C _ t u (BK.out.quiet X2.out)).mono ?_
              rintro e w3 ⟨rfl, x⟩
              have X3 := Lib.hid (X2.out.trans x (fun _ h => h.elim))
              clear x
              rw [E1.out]
              go_wp2_with fail
              refine (sees_any r F C _ u t (BK.out.quiet X3.out)).mono ?_
              rintro e w4 ⟨rfl, x⟩
              have X4 := Lib.hid (X3.out.trans x (fun _ h => h.elim))
              clear x
              rw [E3.out]
              go_wp2
              go_roundw
              case rel => exact ⟨u + 1, by omega, by omega, by rw [HC.out], rfl, XQ.out.trans X4.out (fun _ h => h.elim)⟩
              case measure => simp [intOf]; omega
            · have e1 : C.sees t u = false := by rw [hsee]; simpa using hud
              have HC := Lib.hid (show cnt done (u + 1) = cnt done u by rw [HCS.out, if_neg hud]; omega)
              have E1 := Lib.hid e1
              clear e1 hsee hud
              cases hcc : C.conc t u with
              | false =>
                have E2 := Lib.hid hcc
                clear hcc
                go_wp2_with (go_at_call 22; refine (next_any r F C _ BK.out).mono ?_; rintro e wN ⟨rfl, rfl⟩)
                refine (sees_any r F C _ t u (BK.out.quiet X0.out)).mono ?_
                rintro e w1 ⟨rfl, x⟩
                have X1 := Lib.hid (X0.out.trans x (fun _ h => h.elim))
                clear x
                rw [E1.out]
                go_wp2_with fail
                refine (conc_any r F C _ t u (BK.out.quiet X1.out)).mono ?_
                rintro e w2 ⟨rfl, x⟩
                have X2 := Lib.hid (X1.out.trans x (fun _ h => h.elim))
                clear x
                rw [E2.out]
                go_wp2_with fail
                refine (sees_any r F C _ t u (BK.out.quiet X2.out)).mono ?_
                rintro e w3 ⟨rfl, x⟩
                have X3 := Lib.hid (X2.out.trans x (fun _ h => h.elim))
                clear x
                rw [E1.out]
                go_wp2
                go_roundw
                case rel => exact ⟨u + 1, by omega, by omega, by rw [HC.out], rfl, XQ.out.trans X3.out (fun _ h => h.elim)⟩
                case measure => simp [intOf]; omega
              | true =>
                have E2 := Lib.hid hcc
                have E3 := Lib.hid (conc_not hcc).2
                clear hcc
                go_wp2_with (go_at_call 22; refine (next_any r F C _ BK.out).mono ?_; rintro e wN ⟨rfl, rfl⟩)
                refine (sees_any r F C _ t u (BK.out.quiet X0.out)).mono ?_
                rintro e w1 ⟨rfl, x⟩
                have X1 := Lib.hid (X0.out.trans x (fun _ h => h.elim))
                clear x
                rw [E1.out]
                go_wp2_with fail
                refine (conc_any r F C _ t u (BK.out.quiet X1.out)).mono ?_
                rintro e w2 ⟨rfl, x⟩
                have X2 := Lib.hid (X1.out.trans x (fun _ h => h.elim))
                clear x
                rw [E2.out]
                go_wp2_with fail
                refine (sees_any r F C _ t u (BK.out.quiet X2.out)).mono ?_
                rintro e w3 ⟨rfl, x⟩
                have X3 := Lib.hid (X2.out.trans x (fun _ h => h.elim))
                clear x
                rw [E1.out]
                go_wp2_with fail
                refine (sees_any r F C _ u t (BK.out.quiet X3.out)).mono ?_
                rintro e w4 ⟨rfl, x⟩
                have X4 := Lib.hid (X3.out.trans x (fun _ h => h.elim))
                clear x
                rw [E3.out]
                go_wp2_with fail
                refine (sees_any r F C _ t u (BK.out.quiet X4.out)).mono ?_
                rintro e w5 ⟨rfl, x⟩
                have X5 := Lib.hid (X4.out.trans x (fun _ h => h.elim))
                clear x
                rw [E1.out]
                go_wp2
                go_roundw
                case rel => exact ⟨u + 1, by omega, by omega, by rw [HC.out], rfl, XQ.out.trans X5.out (fun _ h => h.elim)⟩
                case measure => simp [intOf]; omega
        · have hue : u = C.next := by omega
          have hca : cnt done u = done.length := cnt_all LS.out (fun x hx => by have := SN.out.lt x hx; omega)
          rw [hca]
          have E1 := Lib.hid (show C.sees t t = true by rw [SN.out.sees ht1.1 ht1.2]; simp)
          have X0 := Lib.hid (Chg.refl (fun _ => False) wr)
          have HV2 := Lib.hid (HV.out.quiet XQ.out); have HX2 := Lib.hid (show From0 w wr from Chg.trans HX.out XQ.out (fun _ h => h.elim))
          clear hca hue
          go_wp2_with (go_at_call 22; refine (next_any r F C _ BK.out).mono ?_; rintro e wN ⟨rfl, rfl⟩)
          refine (sees_any r F C _ t t (BK.out.quiet X0.out)).mono ?_
          rintro e w1 ⟨rfl, x⟩
          have X1 := Lib.hid (X0.out.trans x (fun _ h => h.elim))
          clear x
          rw [E1.out]
          go_wp2
          have BK1 := Lib.hid (BK.out.quiet X1.out); have HV3 := Lib.hid (HV2.out.quiet X1.out); have HX3 := Lib.hid (show From0 w w1 from Chg.trans HX2.out X1.out (fun _ h => h.elim))
          have hdl := HV3.out.len_le
          clear BK HV2 HX2 X0 X1 XQ
          generalize w1 = wE at *
          go_loopw [13] (fun s13 wx => ∃ k : Nat, k ≤ done.length ∧ s13 = .int .i64 k ∧ Chg (fun _ => False) wE wx) (fun s13 _ => done.length - (intOf s13).toNat)
          case atStart => exact ⟨0, Nat.zero_le _, rfl, Chg.refl _ _⟩
          case round =>
            obtain ⟨k, hk, rfl, hxk⟩ := hrel
            have BK := Lib.hid (BK1.out.quiet hxk)
            have XK := Lib.hid hxk
            clear hxk
            by_cases hkl : k < done.length
            · obtain ⟨g7, rfl, _, _⟩ := F7.out (by omega)
              have hcell := (HV3.out.quiet XK.out).at_ k hkl
              have hmem : done[k] ∈ done := List.getElem_mem hkl
              have D0 := Lib.hid (fun (W : World) (hW : Chg (fun _ => False) wr W) => ((HV3.out.quiet XK.out).quiet hW).at_ k hkl)
              generalize done[k] = d at *
              have hlt2 := SN.out.lt d hmem
              have E1 := Lib.hid (show C.sees t d = true by rw [SN.out.sees hlt2.1 (by omega)]; simp [hmem])
              have E2 := Lib.hid (show C.vers t d (t + 1) = true by rw [SN.out.vers hmem, SN.out.sees_out]; rfl)
              have E3 := Lib.hid (show C.vers t d d = false by rw [SN.out.vers hmem, SN.out.sees hlt2.1 (by omega)]; simp [hmem])
              have E4 := Lib.hid (show C.vers t d t = false by rw [SN.out.vers hmem, SN.out.sees ht1.1 ht1.2]; simp)
              have X0 := Lib.hid ((Chg.refl (fun _ => False) wr).drew)
              have k0 : (0 : Int) ≤ (k : Int) := by omega
              have k1 : (k : Int) < (done.length : Int) := by omega
              clear hmem
              go_wp2_with fail
              refine wp_region_lex (fun w' => w'.cell? ⟨g7, k, none⟩ = some (.int .i64 d)) 99 [6, 17, 31, 41] [0, 1, 2, 3, 4, 5, 6, 7, 8, 9, 10, 11, 12, 13, 14, 15, 16, 17, 18, 19, 20, 21, 22, 23, 24, 25, 26, 27, 28, 29, 30, 31, 32, 33, 34, 35, 36, 37, 38, 39, 40, 41, 42] (by kernel_rfl) (by kernel_rfl) hcell ?_
              clear hcell
              iterate 6
                refine' lex_free (v := _) rfl rfl rfl ?_ (fun _ _ _ h => h) ?_
                rotate_left
                · rintro W hW1
                  go_simp
                  with_reducible rfl
                try simp only [Act.put, List.setIfInBounds_toArray, List.set_cons_zero, List.set_cons_succ]
              refine lex_op rfl rfl rfl (fun K hK => ?_)
              go_simp
              refine (sees_any r F C _ t d (BK.out.quiet X0.out)).mono ?_
              rintro e w1 ⟨rfl, x⟩
              have X1 := Lib.hid (X0.out.trans x (fun _ h => h.elim))
              clear x
              rw [E1.out]
              have hc1 := D0.out _ (X1.out)
              refine hK _ _ (fun _ => hc1) ?_
              clear hK K
              try simp only [Act.put, List.setIfInBounds_toArray, List.set_cons_zero, List.set_cons_succ]
              iterate 2
                refine' lex_free (v := _) rfl rfl rfl ?_ (fun _ _ _ h => h) ?_
                rotate_left
                · rintro W hW1
                  go_simp
                  with_reducible rfl
                try simp only [Act.put, List.setIfInBounds_toArray, List.set_cons_zero, List.set_cons_succ]
              iterate 8
                refine' lex_freeG (v := _) rfl rfl rfl ?_ (fun _ _ _ h => h) ?_
                rotate_left
                · rintro W hW1
                  go_simp
                  with_reducible rfl
                try simp only [Act.put, List.setIfInBounds_toArray, List.set_cons_zero, List.set_cons_succ]
              refine lex_opG rfl rfl rfl (fun K hK => ?_)
              go_simp
              rw [show IntKind.i64.wrap (t + 1) = t + 1 from by simp [IntKind.wrap, IntKind.bits, IntKind.signed]; omega]
              refine (version_any r F C _ t d (t + 1) (BK.out.quiet X1.out)).mono ?_
              rintro e w2 ⟨rfl, x⟩
              have X2 := Lib.hid (X1.out.trans x (fun _ h => h.elim))
              clear x
              rw [E2.out]
              have hc2 := D0.out _ (X2.out)
              refine hK _ _ (fun _ => hc2) ?_
              clear hK K
              try simp only [Act.put, List.setIfInBounds_toArray, List.set_cons_zero, List.set_cons_succ]
              iterate 1
                refine' lex_freeG (v := _) rfl rfl rfl ?_ (fun _ _ _ h => h) ?_
                rotate_left
                · rintro W hW1
                  go_simp
                  with_reducible rfl
                try simp only [Act.put, List.setIfInBounds_toArray, List.set_cons_zero, List.set_cons_succ]
              iterate 2
                refine' lex_free (v := _) rfl rfl rfl ?_ (fun _ _ _ h => h) ?_
                rotate_left
                · rintro W hW1
                  go_simp
                  with_reducible rfl
                try simp only [Act.put, List.setIfInBounds_toArray, List.set_cons_zero, List.set_cons_succ]
              iterate 10
                refine' lex_freeG (v := _) rfl rfl rfl ?_ (fun _ _ _ h => h) ?_
                rotate_left
                · rintro W hW1
                  go_simp
                  with_reducible rfl
                try simp only [Act.put, List.setIfInBounds_toArray, List.set_cons_zero, List.set_cons_succ]
              refine lex_opG rfl rfl rfl (fun K hK => ?_)
              go_simp
              refine (version_any r F C _ t d d (BK.out.quiet X2.out)).mono ?_
              rintro e w3 ⟨rfl, x⟩
              have X3 := Lib.hid (X2.out.trans x (fun _ h => h.elim))
              clear x
              rw [E3.out]
              have hc3 := D0.out _ (X3.out)
              refine hK _ _ (fun _ => hc3) ?_
              clear hK K
              try simp only [Act.put, List.setIfInBounds_toArray, List.set_cons_zero, List.set_cons_succ]
              iterate 2
                refine' lex_free (v := _) rfl rfl rfl ?_ (fun _ _ _ h => h) ?_
                rotate_left
                · rintro W hW1
                  go_simp
                  with_reducible rfl
                try simp only [Act.put, List.setIfInBounds_toArray, List.set_cons_zero, List.set_cons_succ]
              iterate 7
                refine' lex_freeG (v := _) rfl rfl rfl ?_ (fun _ _ _ h => h) ?_
                rotate_left
                · rintro W hW1
                  go_simp
                  with_reducible rfl
                try simp only [Act.put, List.setIfInBounds_toArray, List.set_cons_zero, List.set_cons_succ]
              refine lex_opG rfl rfl rfl (fun K hK => ?_)
              go_simp
              refine (version_any r F C _ t d t (BK.out.quiet X3.out)).mono ?_
              rintro e w4 ⟨rfl, x⟩
              have X4 := Lib.hid (X3.out.trans x (fun _ h => h.elim))
              clear x
              rw [E4.out]
              have hc4 := D0.out _ (X4.out)
              refine hK _ _ (fun _ => hc4) ?_
              clear hK K
              try simp only [Act.put, List.setIfInBounds_toArray, List.set_cons_zero, List.set_cons_succ]
              iterate 1
                refine' lex_free (v := _) rfl rfl rfl ?_ (fun _ _ _ h => h) ?_
                rotate_left
                · rintro W hW1
                  go_simp
                  with_reducible rfl
                try simp only [Act.put, List.setIfInBounds_toArray, List.set_cons_zero, List.set_cons_succ]
              refine lex_nil ?_
              go_wp2
              go_roundw
              case rel => exact ⟨k + 1, by omega, by go_num, XK.out.trans X4.out (fun _ h => h.elim)⟩
              case measure => simp [intOf]; omega
            · have HV4 := Lib.hid (HV3.out.quiet XK.out); have HX4 := Lib.hid (show From0 w wr from Chg.trans HX3.out XK.out (fun _ h => h.elim))
              go_wp2_with fail
              refine (plays_any r F C w wr a2 l2 c2 K2 T2 U2 hm2 HP2.out HX4.out (fun k hk => (HF.out k hk).1) BK.out (by omega)).mono ?_
              rintro e w9 ⟨rfl, n9, C9, hn9, st9, b9, x9⟩
              have hb9 := st9.bounds
              have S9 := Lib.hid (SN.out.steps st9)
              have B9 := Lib.hid b9
              have V9 := Lib.hid (Ints.chg HV4.out x9 (fun g hg hf => by have := HV4.out.lo g hg; have := (HF.out g hf).2; omega))
              have X9 := Lib.hid (show From0 w w9 from Chg.trans HX4.out x9 (fun k hk => .inl (HF.out k hk).1))
              have hs9 : C9.step ≤ 100 + 60 * (i + 1 : Nat) := by omega
              have hn9' : C9.next ≤ 100 + 60 * (i + 1 : Nat) := by omega
              have HS9 := Lib.hid hs9; have HN9 := Lib.hid hn9'
              clear st9 b9 x9 hb9 hs9 hn9'
              go_wp2
              go_roundw
              case rel => exact ⟨i + 1, C9, by omega, by go_num, B9.out, S9.out, HS9.out, HN9.out, V9.out, X9.out⟩
              case measure => simp [intOf]; omega
    · go_wp2
      go_ret
      exact ⟨rfl, Chg.below HX.out (fun _ h => h) (Nat.le_refl _)⟩
end Go.Proofs.Ytfegpmbgcocldaa
