/-
  The walk of WalMany: it returns true, for every list of rows of bytes and every list of bools.
-/
import Derived.Test.YtihpobpkhhkejaaWRead
set_option autoImplicit false
namespace Go.Proofs.Ytihpobpkhhkejaa
open Go Go.RowKit

set_option maxRecDepth 100000 in
set_option maxHeartbeats 4000000 in
theorem many_walk (ra rb : Option Addr) (n1 c1 n2 c2 : Nat) (recs : List (List Int)) (when_ : Nat → Bool) (w : World) (hr : RecsR w (fun k => w.heap.size ≤ k) (.slice ra n1 c1) recs) (hrl : ∀ r ∈ recs, r.length ≤ 2000000000000000000) (hb : SlRd w rb n2 1 (fun i _ => .bool (when_ i))) (hn2 : n2 ≤ 9223372036854775807) :
    Calls Try.prog 9 #[.slice ra n1 c1, .slice rb n2 c2] w fun e w' => e = .returned (.bool true) ∧ Below w.heap.size w w' := by
  have hlen := hr.len
  subst hlen
  have hsz : (Dsk.new 40).size = 40 := new_size 40 (by decide) (by decide)
  obtain ⟨L0, hop0, up0⟩ := up_new 40 (by decide) (by decide)
  have hrm := hr.1
  unfold maxLen at hrm
  have HR := Lib.hid hr; have HB := Lib.hid hb; have HOP0 := Lib.hid hop0; have UP0 := Lib.hid up0; have HSZ := Lib.hid hsz; have HRL := Lib.hid hrl
  have hl0 : (0 : Int) = L0.st.length := by rw [up0.st]; rfl
  have hw0 : (0 : Int) = L0.wait := by rw [up0.wait]; rfl
  have HL0 := Lib.hid hl0; have HW0 := Lib.hid hw0
  clear hr hb hop0 up0 hsz hrl hl0 hw0
  go_enter Try.func9, Try.ntmps9
  go_wp2_with fail
  refine (awake4 w).mono ?_
  rintro e w1 ⟨rfl, x1⟩
  have G1 := Lib.hid (show Grow (fun _ => False) w (fun _ => False) w1 from ⟨x1, fun _ h => .inl h⟩)
  clear x1
  go_wp2_with fail
  refine (zd_new 40 w1).mono ?_
  rintro e w2 ⟨r, Z1, rfl, d1, g1⟩
  have D1 := Lib.hid d1; have G2 := Lib.hid (G1.out.trans g1)
  clear d1 g1
  go_wp2_with fail
  refine (zd_open_ok D1.out (byt_new 40).now HOP0.out).mono ?_
  rintro e w3 ⟨l, v3, Z3, rfl, n3, _, g3, _⟩
  have N3 := Lib.hid n3; have G3 := Lib.hid (G2.out.trans g3)
  clear n3 g3
  go_wp2
  go_loopw [9, 10, 11, 12] (fun s9 s10 s11 s12 wr => ∃ (k fl : Nat) (D : Dsk) (L : Lg) (Z : Nat → Prop) (all : List (List Int)) (us : List Value), k ≤ recs.length ∧ k ≤ 60 ∧ all.length ≤ k ∧ s12 = .int .i64 k ∧ s10 = .int .i64 L.st.length ∧ s11 = .int .i64 L.wait ∧ LogUp D L all fl k ∧ D.calm ∧ D.byt ∧ D.size = 40 ∧
      Zn wr Z r l D L ∧ Grow (fun _ => False) w Z wr ∧ RecsM wr Z s9 all us ∧ (∀ g, s9.ownBlock = some g → w.heap.size ≤ g)) (fun _ _ _ s12 _ => 60 - (intOf s12).toNat)
  case atStart =>
    refine ⟨0, 0, _, L0, Z3, [], [], Nat.zero_le _, Nat.zero_le _, Nat.le_refl _, rfl, by rw [← HL0.out], by rw [← HW0.out], UP0.out, new_calm 40, byt_new 40, HSZ.out, N3.out, G3.out, RecsM.nil _ _, fun g hg => by simp [Value.ownBlock] at hg⟩
  case round =>
    obtain ⟨k, fl, D, L, Z, all, us, hk, hk60, hak, rfl, rfl, rfl, hup, hcalm, hbyt, hsz, hn, hg, hm, hmo⟩ := hrel
    have hroom := hup.room
    rw [hsz] at hroom
    have hwt : L.wait ≤ 60 ∧ 0 ≤ L.wait := by rw [hup.wait]; omega
    have UP := Lib.hid hup; have CA := Lib.hid hcalm; have BY := Lib.hid hbyt; have SZ := Lib.hid hsz; have NN := Lib.hid hn; have GG := Lib.hid hg; have MM := Lib.hid hm; have MO := Lib.hid hmo
    clear hup hcalm hbyt hsz hn hg hm hmo
    by_cases hk1 : k < recs.length
    · by_cases hk2 : k < 60
      · obtain ⟨b, o, ub, un, uc, rfl, hcell, hby, hbl, _⟩ := HR.out.at_ k hk1
        have hun := hby.get.1
        have hxl := HRL.out recs[k] (List.getElem_mem hk1)
        have c0 : wr.cell? ⟨b, o + k, none⟩ = some (.slice ub un uc) := (cell_of_heap (GG.out.chg.keep b hbl (fun h => h))).trans hcell
        have HC := Lib.hid hcell; have HBY := Lib.hid hby; have HUN := Lib.hid hun
        rw [← hun] at hxl
        clear hcell hby hun
        generalize recs[k] = x at *
        by_cases hfit : (L.st.length : Int) + 4 + un ≤ 2432
        · obtain ⟨L', ha, up', hl', hw'⟩ := UP.out.append (r := x) (by rw [SZ.out, ← HUN.out]; omega) HBY.out.1
          rw [← HUN.out] at hl'
          have HA := Lib.hid ha; have UP' := Lib.hid up'; have HL' := Lib.hid hl'; have HW' := Lib.hid hw'
          clear ha up' hl' hw'
          go_wp2_with fail
          refine (zn_append NN.out _ x ((HBY.out.chg GG.out.chg (fun _ h => h.elim)).weaken (fun q _ hq => (GG.out.new q hq).elim (fun h => h.elim) id))).mono ?_
          rintro e w4 ⟨Z4, rfl, n4, g4⟩
          rw [HA.out] at n4
          rw [HA.out]
          have N4 := Lib.hid n4; have G4 := Lib.hid (GG.out.trans g4); have M4 := Lib.hid (MM.out.grow g4)
          clear n4 g4 c0
          have c0 : w4.cell? ⟨b, o + k, none⟩ = some (.slice ub un uc) := (cell_of_heap (G4.out.chg.keep b hbl (fun h => h))).trans HC.out
          have hbx : BytR (w4.alloc (.cells #[.slice ub un uc] 22)) (fun q => Z4 q ∨ u9.ownBlock = some q) (.slice ub un uc) x := ((HBY.out.chg G4.out.chg (fun _ h => h.elim)).weaken (fun q _ hq => hq.elim (fun h => (G4.out.new q h).elim (fun h => h.elim) id) (fun h => MO.out q h))).chg ((Chg.refl (fun _ => False) w4).alloc _) (fun _ h => h.elim)
          have hma : RecsM (w4.alloc (.cells #[.slice ub un uc] 22)) Z4 u9 all us := M4.out.grow ((Grow.refl Z4 w4).alloc _)
          have hna : Zn (w4.alloc (.cells #[.slice ub un uc] 22)) Z4 r l D L' := N4.out.alloc _
          have hga : Grow (fun _ => False) w Z4 (w4.alloc (.cells #[.slice ub un uc] 22)) := G4.out.alloc _
          have HBX := Lib.hid hbx; have HMA := Lib.hid hma; have HNA := Lib.hid hna; have HGA := Lib.hid hga
          clear hbx hma hna hga
          go_wp2_with (at_builtin; refine recs_app rfl _ _ rfl Z4 _ all us rfl HMA.out w4.heap.size (.slice ub un uc) x rfl hal_new HBX.out ?_ ?_ ?_)
          · omega
          · intro hz; have := N4.out.lt _ hz; have h9 := lt_of_heap (hal_new (w := w4) (o := .cells #[.slice ub un uc] 22)); omega
          · intro v5 w5 m5 x5 n5
            have N5 := Lib.hid (HNA.out.chg x5 (fun q hq h => HMA.out.out q h hq))
            have G5 := Lib.hid (show Grow (fun _ => False) w Z4 w5 from ⟨HGA.out.chg.trans x5 (fun q hq => .inr (MO.out q hq)), HGA.out.new⟩)
            have M5 := Lib.hid m5
            have MO5 := Lib.hid (show ∀ g, v5.ownBlock = some g → w.heap.size ≤ g from fun g hg => by
              rcases n5 g hg with h | h
              · exact MO.out g h
              · have := G4.out.chg.size; omega)
            clear m5 x5 n5
            have c0 : w5.cell? ⟨b, o + k, none⟩ = some (.slice ub un uc) := (cell_of_heap (G5.out.chg.keep b hbl (fun h => h))).trans HC.out
            go_wp2_with fail
            refine (zn_used N5.out).mono ?_
            rintro e wu ⟨rfl, rfl⟩
            rw [HL'.out]
            go_wp2_with fail
            refine (zn_waiting N5.out).mono ?_
            rintro e wu ⟨rfl, rfl⟩
            rw [HW'.out]
            by_cases hk3 : k < n2
            · obtain ⟨bb, bo, rfl, hbbl, hbc⟩ := HB.out (by omega)
              have cb : w5.cell? ⟨bb, bo + k, none⟩ = some (.bool (when_ k)) := by
                have := hbc k 0 hk3 (by omega)
                simp only [Nat.mul_one, Nat.add_zero] at this
                exact (cell_of_heap (G5.out.chg.keep bb hbbl (fun h => h))).trans this
              clear hbc
              cases hwk : when_ k with
              | true =>
                rw [hwk] at cb
                obtain ⟨f1, k1, up2, st2, wt2, z2⟩ := UP'.out.flushC CA.out (by omega)
                have by2 : (flushR D L').2.1.byt := byt_flush BY.out (by rw [UP'.out.st]; exact flatF_bytes UP'.out.ok)
                have F1 := Lib.hid f1; have K1 := Lib.hid k1; have UP2 := Lib.hid up2; have ST2 := Lib.hid st2; have WT2 := Lib.hid wt2; have Z2 := Lib.hid z2; have BY2 := Lib.hid by2
                clear f1 k1 up2 st2 wt2 z2 by2
                go_wp2_with fail
                refine (zn_flush N5.out (by rw [SZ.out]; decide) UP'.out.room (by rw [UP'.out.live.wait]; decide)).mono ?_
                rintro e w6 ⟨Z6, rfl, n6, g6⟩
                rw [F1.out]
                have N6 := Lib.hid n6; have G6 := Lib.hid (G5.out.trans g6); have M6 := Lib.hid (M5.out.grow g6)
                clear n6 g6
                go_wp2
                go_roundw
                case rel => exact ⟨k + 1, _, _, _, Z6, (all ++ [x]), _, by omega, by omega, by rw [List.length_append, List.length_singleton]; omega, by go_num, by rw [ST2.out, HL'.out], by rw [WT2.out], UP2.out, K1.out, BY2.out, by rw [Z2.out]; exact SZ.out, N6.out, G6.out, M6.out, MO5.out⟩
                case measure => simp [intOf]; omega
              | false =>
                rw [hwk] at cb
                go_wp2
                go_roundw
                case rel => exact ⟨k + 1, _, _, _, Z4, (all ++ [x]), _, by omega, by omega, by rw [List.length_append, List.length_singleton]; omega, by go_num, by rw [HL'.out], by rw [HW'.out], LogUp.more UP'.out (by omega) (by omega), CA.out, BY.out, SZ.out, N5.out, G5.out, M5.out, MO5.out⟩
                case measure => simp [intOf]; omega
            · go_wp2
              go_roundw
              case rel => exact ⟨k + 1, _, _, _, Z4, (all ++ [x]), _, by omega, by omega, by rw [List.length_append, List.length_singleton]; omega, by go_num, by rw [HL'.out], by rw [HW'.out], LogUp.more UP'.out (by omega) (by omega), CA.out, BY.out, SZ.out, N5.out, G5.out, M5.out, MO5.out⟩
              case measure => simp [intOf]; omega
        · have HF := Lib.hid (appR_full D L (r := x) (by rw [SZ.out, ← HUN.out]; omega))
          go_wp2_with fail
          refine (zn_append NN.out _ x ((HBY.out.chg GG.out.chg (fun _ h => h.elim)).weaken (fun q _ hq => (GG.out.new q hq).elim (fun h => h.elim) id))).mono ?_
          rintro e w4 ⟨Z4, rfl, n4, g4⟩
          rw [HF.out] at n4
          rw [HF.out]
          have N5 := Lib.hid n4; have G5 := Lib.hid (GG.out.trans g4); have M5 := Lib.hid (MM.out.grow g4)
          clear n4 g4 c0
          have c0 : w4.cell? ⟨b, o + k, none⟩ = some (.slice ub un uc) := (cell_of_heap (G5.out.chg.keep b hbl (fun h => h))).trans HC.out
          go_wp2_with fail
          refine (zn_used N5.out).mono ?_
          rintro e wu ⟨rfl, rfl⟩
          go_wp2_with fail
          refine (zn_waiting N5.out).mono ?_
          rintro e wu ⟨rfl, rfl⟩
          by_cases hk3 : k < n2
          · obtain ⟨bb, bo, rfl, hbbl, hbc⟩ := HB.out (by omega)
            have cb : w4.cell? ⟨bb, bo + k, none⟩ = some (.bool (when_ k)) := by
              have := hbc k 0 hk3 (by omega)
              simp only [Nat.mul_one, Nat.add_zero] at this
              exact (cell_of_heap (G5.out.chg.keep bb hbbl (fun h => h))).trans this
            clear hbc
            cases hwk : when_ k with
            | true =>
              rw [hwk] at cb
              obtain ⟨f1, k1, up2, st2, wt2, z2⟩ := UP.out.flushC CA.out (by omega)
              have by2 : (flushR D L).2.1.byt := byt_flush BY.out (by rw [UP.out.st]; exact flatF_bytes UP.out.ok)
              have F1 := Lib.hid f1; have K1 := Lib.hid k1; have UP2 := Lib.hid up2; have ST2 := Lib.hid st2; have WT2 := Lib.hid wt2; have Z2 := Lib.hid z2; have BY2 := Lib.hid by2
              clear f1 k1 up2 st2 wt2 z2 by2
              go_wp2_with fail
              refine (zn_flush N5.out (by rw [SZ.out]; decide) UP.out.room (by rw [UP.out.live.wait]; decide)).mono ?_
              rintro e w6 ⟨Z6, rfl, n6, g6⟩
              rw [F1.out]
              have N6 := Lib.hid n6; have G6 := Lib.hid (G5.out.trans g6); have M6 := Lib.hid (M5.out.grow g6)
              clear n6 g6
              go_wp2
              go_roundw
              case rel => exact ⟨k + 1, _, _, _, Z6, all, _, by omega, by omega, by omega, by go_num, by rw [ST2.out], by rw [WT2.out], UP2.out, K1.out, BY2.out, by rw [Z2.out]; exact SZ.out, N6.out, G6.out, M6.out, MO.out⟩
              case measure => simp [intOf]; omega
            | false =>
              rw [hwk] at cb
              go_wp2
              go_roundw
              case rel => exact ⟨k + 1, _, _, _, Z4, all, _, by omega, by omega, by omega, by go_num, rfl, rfl, LogUp.more UP.out (by omega) (by omega), CA.out, BY.out, SZ.out, N5.out, G5.out, M5.out, MO.out⟩
              case measure => simp [intOf]; omega
          · go_wp2
            go_roundw
            case rel => exact ⟨k + 1, _, _, _, Z4, all, _, by omega, by omega, by omega, by go_num, rfl, rfl, LogUp.more UP.out (by omega) (by omega), CA.out, BY.out, SZ.out, N5.out, G5.out, M5.out, MO.out⟩
            case measure => simp [intOf]; omega
      · have hk60' : k = 60 := by omega
        obtain ⟨f1, k1, up2, st2, wt2, z2⟩ := UP.out.flushC CA.out (by omega)
        have by2 : (flushR D L).2.1.byt := byt_flush BY.out (by rw [UP.out.st]; exact flatF_bytes UP.out.ok)
        have F1 := Lib.hid f1; have UP2 := Lib.hid up2; have ST2 := Lib.hid st2; have WT2 := Lib.hid wt2; have BY2 := Lib.hid by2
        clear f1 k1 up2 st2 wt2 z2 by2
        go_wp2_with fail
        refine (zn_flush NN.out (by rw [SZ.out]; decide) UP.out.room (by rw [UP.out.live.wait]; decide)).mono ?_
        rintro e w6 ⟨Z6, rfl, n6, g6⟩
        rw [F1.out]
        have N6 := Lib.hid n6; have G6 := Lib.hid (GG.out.trans g6); have M6 := Lib.hid (MM.out.grow g6)
        clear n6 g6
        go_wp2_with fail
        refine (zn_waiting N6.out).mono ?_
        rintro e w7 ⟨rfl, rfl⟩
        rw [WT2.out]
        obtain ⟨L7, hop7, up7⟩ := UP2.out.opens N6.out.h64
        rw [List.take_length] at hop7 up7
        have HOP7 := Lib.hid hop7; have L7S := Lib.hid (show L7.st.length = L.st.length by rw [up7.st, UP.out.st])
        clear hop7 up7
        go_wp2_with fail
        refine (zd_open_ok N6.out.zd BY2.out.now HOP7.out).mono ?_
        rintro e w7 ⟨l7, v7, Z7, rfl, n7, r7, g7, _⟩
        have N7 := Lib.hid n7; have G7 := Lib.hid (G6.out.trans g7); have M7 := Lib.hid (M6.out.grow g7); have R7 := Lib.hid r7
        obtain ⟨ma, mc, hmv, _⟩ := (M6.out.grow g7).form
        obtain ⟨_, pa, pc, rfl, _⟩ := r7
        subst hmv
        clear n7 g7
        go_wp2_with fail
        refine (zn_used N7.out).mono ?_
        rintro e w8 ⟨rfl, rfl⟩
        rw [L7S.out]
        have RM := Lib.hid M7.out.read
        go_wp2
        go_loopw [15] (fun i wr => ∃ j : Nat, j ≤ all.length ∧ i = .int .i64 j ∧ Chg (fun _ => False) w7 wr) (fun i _ => all.length - (intOf i).toNat)
        case atStart => exact ⟨0, Nat.zero_le _, rfl, Chg.refl _ _⟩
        case round =>
          obtain ⟨j, hj, rfl, hx⟩ := hrel
          have XX := Lib.hid hx
          clear hx
          by_cases hjl : j < all.length
          · obtain ⟨b1, o1, ub1, un1, uc1, rfl, hce1, hby1, hbl1, _⟩ := R7.out.at_ j hjl
            obtain ⟨b2, o2, ub2, un2, uc2, rfl, hce2, hby2, hbl2, _⟩ := RM.out.at_ j hjl
            have q1 : wr.cell? ⟨b1, o1 + j, none⟩ = some (.slice ub1 un1 uc1) := (cell_of_heap (XX.out.keep b1 hbl1 (fun h => h))).trans hce1
            have q2 : wr.cell? ⟨b2, o2 + j, none⟩ = some (.slice ub2 un2 uc2) := (cell_of_heap (XX.out.keep b2 hbl2 (fun h => h))).trans hce2
            have B1 := Lib.hid (hby1.chg XX.out (fun _ h => h.elim)); have B2 := Lib.hid (hby2.chg XX.out (fun _ h => h.elim))
            clear hce1 hce2 hby1 hby2
            generalize all[j] = x at *
            go_wp2_with fail
            refine wp_region_lex (fun w' => w'.cell? ⟨b1, o1 + j, none⟩ = some (.slice ub1 un1 uc1) ∧ w'.cell? ⟨b2, o2 + j, none⟩ = some (.slice ub2 un2 uc2) ∧ BytR w' Z7 (.slice ub1 un1 uc1) x ∧ BytR w' Z7 (.slice ub2 un2 uc2) x) 99 [] [0, 1, 2, 3, 4, 5, 6, 7, 8, 9, 10] (by kernel_rfl) (by kernel_rfl) ⟨q1, q2, B1.out, B2.out⟩ ?_
            clear q1 q2
            iterate 4
              refine' lex_free (v := _) rfl rfl rfl ?_ (fun _ _ _ h => h) ?_
              rotate_left
              · rintro W ⟨hW1, hW2, _, _⟩
                go_simp
                with_reducible rfl
              try simp only [Act.put, List.setIfInBounds_toArray, List.set_cons_zero, List.set_cons_succ]
            refine lex_free (v := .string (strOfNums x)) rfl rfl rfl (fun W hW => exec_conv rfl rfl (hW.2.2.1.conv 9 Try.underlying9)) (fun _ _ _ h => h) ?_
            try simp only [Act.put, List.setIfInBounds_toArray, List.set_cons_zero, List.set_cons_succ]
            iterate 4
              refine' lex_free (v := _) rfl rfl rfl ?_ (fun _ _ _ h => h) ?_
              rotate_left
              · rintro W ⟨hW1, hW2, _, _⟩
                go_simp
                with_reducible rfl
              try simp only [Act.put, List.setIfInBounds_toArray, List.set_cons_zero, List.set_cons_succ]
            refine lex_free (v := .string (strOfNums x)) rfl rfl rfl (fun W hW => exec_conv rfl rfl (hW.2.2.2.conv 9 Try.underlying9)) (fun _ _ _ h => h) ?_
            try simp only [Act.put, List.setIfInBounds_toArray, List.set_cons_zero, List.set_cons_succ]
            refine lex_free (v := .bool false) rfl rfl rfl (fun W hW => by go_simp) (fun _ _ _ h => h) ?_
            try simp only [Act.put, List.setIfInBounds_toArray, List.set_cons_zero, List.set_cons_succ]
            refine lex_nil ?_
            go_wp2
            go_roundw
            case rel => exact ⟨j + 1, by omega, by go_num, XX.out.drew⟩
            case measure => simp [intOf]; omega
          · go_wp2
            go_ret
            exact ⟨rfl, (G7.out.chg.trans XX.out (fun _ h => h.elim)).below (fun _ h => h.elim) (Nat.le_refl _)⟩
    · have hkr : k = recs.length := by omega
      obtain ⟨f1, k1, up2, st2, wt2, z2⟩ := UP.out.flushC CA.out (by omega)
      have by2 : (flushR D L).2.1.byt := byt_flush BY.out (by rw [UP.out.st]; exact flatF_bytes UP.out.ok)
      have F1 := Lib.hid f1; have UP2 := Lib.hid up2; have ST2 := Lib.hid st2; have WT2 := Lib.hid wt2; have BY2 := Lib.hid by2
      clear f1 k1 up2 st2 wt2 z2 by2
      go_wp2_with fail
      refine (zn_flush NN.out (by rw [SZ.out]; decide) UP.out.room (by rw [UP.out.live.wait]; decide)).mono ?_
      rintro e w6 ⟨Z6, rfl, n6, g6⟩
      rw [F1.out]
      have N6 := Lib.hid n6; have G6 := Lib.hid (GG.out.trans g6); have M6 := Lib.hid (MM.out.grow g6)
      clear n6 g6
      go_wp2_with fail
      refine (zn_waiting N6.out).mono ?_
      rintro e w7 ⟨rfl, rfl⟩
      rw [WT2.out]
      obtain ⟨L7, hop7, up7⟩ := UP2.out.opens N6.out.h64
      rw [List.take_length] at hop7 up7
      have HOP7 := Lib.hid hop7; have L7S := Lib.hid (show L7.st.length = L.st.length by rw [up7.st, UP.out.st])
      clear hop7 up7
      go_wp2_with fail
      refine (zd_open_ok N6.out.zd BY2.out.now HOP7.out).mono ?_
      rintro e w7 ⟨l7, v7, Z7, rfl, n7, r7, g7, _⟩
      have N7 := Lib.hid n7; have G7 := Lib.hid (G6.out.trans g7); have M7 := Lib.hid (M6.out.grow g7); have R7 := Lib.hid r7
      obtain ⟨ma, mc, hmv, _⟩ := (M6.out.grow g7).form
      obtain ⟨_, pa, pc, rfl, _⟩ := r7
      subst hmv
      clear n7 g7
      go_wp2_with fail
      refine (zn_used N7.out).mono ?_
      rintro e w8 ⟨rfl, rfl⟩
      rw [L7S.out]
      have RM := Lib.hid M7.out.read
      go_wp2
      go_loopw [15] (fun i wr => ∃ j : Nat, j ≤ all.length ∧ i = .int .i64 j ∧ Chg (fun _ => False) w7 wr) (fun i _ => all.length - (intOf i).toNat)
      case atStart => exact ⟨0, Nat.zero_le _, rfl, Chg.refl _ _⟩
      case round =>
        obtain ⟨j, hj, rfl, hx⟩ := hrel
        have XX := Lib.hid hx
        clear hx
        by_cases hjl : j < all.length
        · obtain ⟨b1, o1, ub1, un1, uc1, rfl, hce1, hby1, hbl1, _⟩ := R7.out.at_ j hjl
          obtain ⟨b2, o2, ub2, un2, uc2, rfl, hce2, hby2, hbl2, _⟩ := RM.out.at_ j hjl
          have q1 : wr.cell? ⟨b1, o1 + j, none⟩ = some (.slice ub1 un1 uc1) := (cell_of_heap (XX.out.keep b1 hbl1 (fun h => h))).trans hce1
          have q2 : wr.cell? ⟨b2, o2 + j, none⟩ = some (.slice ub2 un2 uc2) := (cell_of_heap (XX.out.keep b2 hbl2 (fun h => h))).trans hce2
          have B1 := Lib.hid (hby1.chg XX.out (fun _ h => h.elim)); have B2 := Lib.hid (hby2.chg XX.out (fun _ h => h.elim))
          clear hce1 hce2 hby1 hby2
          generalize all[j] = x at *
          go_wp2_with fail
          refine wp_region_lex (fun w' => w'.cell? ⟨b1, o1 + j, none⟩ = some (.slice ub1 un1 uc1) ∧ w'.cell? ⟨b2, o2 + j, none⟩ = some (.slice ub2 un2 uc2) ∧ BytR w' Z7 (.slice ub1 un1 uc1) x ∧ BytR w' Z7 (.slice ub2 un2 uc2) x) 99 [] [0, 1, 2, 3, 4, 5, 6, 7, 8, 9, 10] (by kernel_rfl) (by kernel_rfl) ⟨q1, q2, B1.out, B2.out⟩ ?_
          clear q1 q2
          iterate 4
            refine' lex_free (v := _) rfl rfl rfl ?_ (fun _ _ _ h => h) ?_
            rotate_left
            · rintro W ⟨hW1, hW2, _, _⟩
              go_simp
              with_reducible rfl
            try simp only [Act.put, List.setIfInBounds_toArray, List.set_cons_zero, List.set_cons_succ]
          refine lex_free (v := .string (strOfNums x)) rfl rfl rfl (fun W hW => exec_conv rfl rfl (hW.2.2.1.conv 9 Try.underlying9)) (fun _ _ _ h => h) ?_
          try simp only [Act.put, List.setIfInBounds_toArray, List.set_cons_zero, List.set_cons_succ]
          iterate 4
            refine' lex_free (v := _) rfl rfl rfl ?_ (fun _ _ _ h => h) ?_
            rotate_left
            · rintro W ⟨hW1, hW2, _, _⟩
              go_simp
              with_reducible rfl
            try simp only [Act.put, List.setIfInBounds_toArray, List.set_cons_zero, List.set_cons_succ]
          refine lex_free (v := .string (strOfNums x)) rfl rfl rfl (fun W hW => exec_conv rfl rfl (hW.2.2.2.conv 9 Try.underlying9)) (fun _ _ _ h => h) ?_
          try simp only [Act.put, List.setIfInBounds_toArray, List.set_cons_zero, List.set_cons_succ]
          refine lex_free (v := .bool false) rfl rfl rfl (fun W hW => by go_simp) (fun _ _ _ h => h) ?_
          try simp only [Act.put, List.setIfInBounds_toArray, List.set_cons_zero, List.set_cons_succ]
          refine lex_nil ?_
          go_wp2
          go_roundw
          case rel => exact ⟨j + 1, by omega, by go_num, XX.out.drew⟩
          case measure => simp [intOf]; omega
        · go_wp2
          go_ret
          exact ⟨rfl, (G7.out.chg.trans XX.out (fun _ h => h.elim)).below (fun _ h => h.elim) (Nat.le_refl _)⟩
end Go.Proofs.Ytihpobpkhhkejaa
