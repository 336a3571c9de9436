/-
  The walk of WalReplay: it returns true, for every list of rows of bytes, every list of bools and every crash.
-/
import Derived.Test.YtihpobpkhhkejaaWRep
set_option autoImplicit false
namespace Go.Proofs.Ytihpobpkhhkejaa
open Go Go.RowKit

theorem new_bytes : Bytes [110, 101, 119] := by intro b hb; simp at hb; omega
theorem new_str : strOfNums [110, 101, 119] = ⟨#[110, 101, 119]⟩ := rfl
theorem sixty (O : Int) : ∃ m : Nat, wrap64 (wrap64 ((IntKind.u64.wrap O).tmod 60) + 1) = (m : Int) + 1 ∧ m < 60 := by
  have h : IntKind.u64.wrap O = O % 18446744073709551616 := by simp [IntKind.wrap, IntKind.bits, IntKind.signed]
  have h2 : (IntKind.u64.wrap O).tmod 60 = (O % 18446744073709551616) % 60 := by rw [h, Int.tmod_eq_emod_of_nonneg (by omega)]
  refine ⟨((O % 18446744073709551616) % 60).toNat, ?_, by omega⟩
  rw [h2]
  unfold wrap64
  omega
set_option maxRecDepth 100000 in
set_option maxHeartbeats 4000000 in
theorem replay_walk (ra rb rk : Option Addr) (n1 c1 n2 c2 n3 c3 : Nat) (at_ : Int) (recs : List (List Int)) (fls : Nat → Bool) (ks : List Bool) (w : World) (hr : RecsR w (fun k => w.heap.size ≤ k) (.slice ra n1 c1) recs) (hrl : ∀ r ∈ recs, r.length ≤ 2000000000000000000)
    (hb : SlRd w rb n2 1 (fun i _ => .bool (fls i))) (hn2 : n2 ≤ 9223372036854775807) (hk : BoolsAt w (fun k => w.heap.size ≤ k) (.slice rk n3 c3) ks) :
    Calls Try.prog 11 #[.slice ra n1 c1, .slice rb n2 c2, .agg #[.int .i64 at_, .slice rk n3 c3]] w fun e w' => e = .returned (.bool true) ∧ Below w.heap.size w w' := by
  have hlen := hr.len
  subst hlen
  have hsz : (Dsk.new 200).size = 200 := new_size 200 (by decide) (by decide)
  obtain ⟨L0, hop0, up0⟩ := up_new 200 (by decide) (by decide)
  have hrm := hr.1
  unfold maxLen at hrm
  obtain ⟨q, hq, hq60⟩ := sixty at_
  have HOP0 := Lib.hid hop0; have UP0 := Lib.hid up0; have HSZ := Lib.hid hsz; have HRL := Lib.hid hrl; have HR0 := Lib.hid hr; have HB0 := Lib.hid hb; have HK0 := Lib.hid hk; have HQ := Lib.hid hq
  clear hr hb hk hop0 up0 hsz hrl hq
  go_enter Try.func11, Try.ntmps11
  go_wp2_with fail
  obtain ⟨WA, hWA⟩ : ∃ WA, WA = w.alloc (.cells #[.int .i64 at_, .slice rk n3 c3] 73) := ⟨_, rfl⟩
  rw [← hWA]
  have hxa : Chg (fun _ => False) w WA := by rw [hWA]; exact (Chg.refl _ _).alloc _
  have hza : WA.heap.size = w.heap.size + 1 := by rw [hWA]; simp
  have hca : WA.heap[w.heap.size]? = some (.cells #[.int .i64 at_, .slice rk n3 c3] 73 (0, 0)) := by rw [hWA]; exact hal_new
  have HR := Lib.hid (show RecsR WA (fun k => WA.heap.size ≤ k) (.slice ra recs.length c1) recs from (HR0.out.chg hxa (fun _ h => h.elim)).weaken (fun k _ hk => by omega))
  have HB := Lib.hid (HB0.out.chg hxa (fun _ _ h => h))
  have HK := Lib.hid (HK0.out.chg hxa (fun _ h => h.elim))
  have XA := Lib.hid hxa; have CA := Lib.hid hca
  clear hWA hxa hca HR0 HB0 HK0
  refine (awake4 WA).mono ?_
  rintro e w1 ⟨rfl, x1⟩
  have G1 := Lib.hid (show Grow (fun _ => False) WA (fun _ => False) w1 from ⟨x1, fun _ h => .inl h⟩)
  clear x1
  go_wp2_with fail
  refine (zd_new 200 w1).mono ?_
  rintro e w2 ⟨r, Z1, rfl, d1, g1⟩
  have D1 := Lib.hid d1; have G2 := Lib.hid (G1.out.trans g1)
  clear d1 g1
  go_wp2_with fail
  refine (zd_open_ok D1.out (byt_new 200).now HOP0.out).mono ?_
  rintro e w3 ⟨l, v3, Z3, rfl, n3', _, g3, _⟩
  have N3 := Lib.hid n3'; have G3 := Lib.hid (G2.out.trans g3)
  clear n3' g3
  have kc0 := cell_of_row w3 w.heap.size 0 _ _ _ (G3.out.chg.heap CA.out (fun h => h))
  go_wp2_with fail
  rw [HQ.out]
  refine (zn_arm N3.out ((q : Int) + 1) (by omega)).mono ?_
  rintro e w4 ⟨Z4, rfl, n4, g4⟩
  have N4 := Lib.hid n4; have G4 := Lib.hid (G3.out.trans g4)
  obtain ⟨ua, _⟩ := UP0.out.armed ((q : Int) + 1) (by omega)
  have R4 := Lib.hid (RepI.start ua (by rw [← HSZ.out]; unfold Dsk.arm; split <;> rfl) (byt_arm (byt_new 200) _))
  clear n4 g4 kc0 ua
  generalize (Dsk.new 200).arm ((q : Int) + 1) = D4 at *
  go_wp2
  go_loopw [11, 12, 13] (fun s11 s12 s13 wr => ∃ (k f : Nat) (D : Dsk) (L : Lg) (Z : Nat → Prop) (us : List Value), k ≤ recs.length ∧ s12 = .int .i64 f ∧ s13 = .int .i64 k ∧ RepI D L (recs.take k) f k ∧ Zn wr Z r l D L ∧ Grow (fun _ => False) WA Z wr ∧ RecsM wr Z s11 (recs.take k) us ∧ (∀ g, s11.ownBlock = some g → WA.heap.size ≤ g)) (fun _ _ s13 _ => 4000 - (intOf s13).toNat)
  case atStart => exact ⟨0, 0, D4, L0, Z4, [], Nat.zero_le _, rfl, rfl, R4.out, N4.out, G4.out, RecsM.nil _ _, fun g hg => by simp [Value.ownBlock] at hg⟩
  case round =>
    obtain ⟨k, f, D, L, Z, us, hk, rfl, rfl, hrep, hn, hg, hm, hmo⟩ := hrel
    have hkk : (recs.take k).length = k := by rw [List.length_take]; omega
    have hcnt := hrep.count
    rw [hkk] at hcnt
    have hroom := hrep.room
    have hfle := hrep.fle
    rw [hkk] at hfle
    have RI := Lib.hid hrep; have NN := Lib.hid hn; have GG := Lib.hid hg; have MM := Lib.hid hm; have MO := Lib.hid hmo; have HKK := Lib.hid hkk
    clear hrep hn hg hm hmo hkk
    by_cases hk1 : k < recs.length
    · obtain ⟨b, o, ub, un, uc, rfl, hcell, hby, hbl, _⟩ := HR.out.at_ k hk1
      have hun := hby.get.1
      have c0 : wr.cell? ⟨b, o + k, none⟩ = some (.slice ub un uc) := (cell_of_heap (GG.out.chg.keep b hbl (fun h => h))).trans hcell
      have HC := Lib.hid hcell; have HBY := Lib.hid hby; have HUN := Lib.hid hun
      have htk := List.take_succ_eq_append_getElem hk1
      have HTK := Lib.hid htk
      clear hcell hby hun htk
      generalize recs[k] = x at *
      by_cases hfit : (L.st.length : Int) + 4 + un ≤ 12672
      · obtain ⟨L', ha, rep', hw'⟩ := RI.out.append (r := x) (by rw [← HUN.out]; exact hfit) HBY.out.1
        rw [← HTK.out] at rep'
        have hk2 := rep'.count
        rw [List.length_take] at hk2
        have hL0 : L'.wait ≠ 0 := by have := NN.out.ok.2.w0; omega
        have HA := Lib.hid ha; have REP' := Lib.hid rep'; have HL0 := Lib.hid hL0
        clear ha rep' hw' hL0
        go_wp2_with fail
        refine (zn_append NN.out _ x ((HBY.out.chg GG.out.chg (fun _ h => h.elim)).weaken (fun q _ hq => (GG.out.new q hq).elim (fun h => h.elim) id))).mono ?_
        rintro e w4 ⟨Z4, rfl, n4, g4⟩
        rw [HA.out] at n4
        rw [HA.out]
        have N4 := Lib.hid n4; have G4 := Lib.hid (GG.out.trans g4); have M4 := Lib.hid (MM.out.grow g4)
        clear n4 g4 c0
        have c0 : w4.cell? ⟨b, o + k, none⟩ = some (.slice ub un uc) := (cell_of_heap (G4.out.chg.keep b hbl (fun h => h))).trans HC.out
        have hbx : BytR (w4.alloc (.cells #[.slice ub un uc] 22)) (fun q => Z4 q ∨ u11.ownBlock = some q) (.slice ub un uc) x := ((HBY.out.chg G4.out.chg (fun _ h => h.elim)).weaken (fun q _ hq => hq.elim (fun h => (G4.out.new q h).elim (fun h => h.elim) id) (fun h => MO.out q h))).chg ((Chg.refl (fun _ => False) w4).alloc _) (fun _ h => h.elim)
        have hma : RecsM (w4.alloc (.cells #[.slice ub un uc] 22)) Z4 u11 (recs.take k) us := M4.out.grow ((Grow.refl Z4 w4).alloc _)
        have hna : Zn (w4.alloc (.cells #[.slice ub un uc] 22)) Z4 r l D L' := N4.out.alloc _
        have hga : Grow (fun _ => False) WA Z4 (w4.alloc (.cells #[.slice ub un uc] 22)) := G4.out.alloc _
        have HBX := Lib.hid hbx; have HMA := Lib.hid hma; have HNA := Lib.hid hna; have HGA := Lib.hid hga
        clear hbx hma hna hga
        go_wp2_with (at_builtin; refine recs_app rfl _ _ rfl Z4 _ (recs.take k) us rfl HMA.out w4.heap.size (.slice ub un uc) x rfl hal_new HBX.out ?_ ?_ ?_)
        · rw [HKK.out]; omega
        · intro hz; have := N4.out.lt _ hz; have h9 := lt_of_heap (hal_new (w := w4) (o := .cells #[.slice ub un uc] 22)); omega
        · intro v5 w5 m5 x5 n5
          rw [← HTK.out] at m5
          have N5 := Lib.hid (HNA.out.chg x5 (fun q hq h => HMA.out.out q h hq))
          have G5 := Lib.hid (show Grow (fun _ => False) WA Z4 w5 from ⟨HGA.out.chg.trans x5 (fun q hq => .inr (MO.out q hq)), HGA.out.new⟩)
          have MO5 := Lib.hid (show ∀ g, v5.ownBlock = some g → WA.heap.size ≤ g from fun g hg => by
            rcases n5 g hg with h | h
            · exact MO.out g h
            · have := G4.out.chg.size; omega)
          obtain ⟨va, vc, hv5, _⟩ := m5.form
          rw [List.length_take, Nat.min_eq_left (by omega)] at hv5
          subst hv5
          have M5 := Lib.hid m5
          clear m5 x5 n5
          by_cases hk3 : k < n2
          · obtain ⟨bb, bo, rfl, hbbl, hbc⟩ := HB.out (by omega)
            have cb : w5.cell? ⟨bb, bo + k, none⟩ = some (.bool (fls k)) := by
              have := hbc k 0 hk3 (by omega)
              simp only [Nat.mul_one, Nat.add_zero] at this
              exact (cell_of_heap (G5.out.chg.keep bb hbbl (fun h => h))).trans this
            clear hbc
            cases hwk : fls k with
            | true =>
              rw [hwk] at cb
              have hfl := REP'.out.flush HL0.out (by omega)
              have HFL := Lib.hid hfl
              clear hfl
              go_wp2_with fail
              refine (zn_flush N5.out (by rw [REP'.out.size]; decide) (by have := REP'.out.room; rw [REP'.out.size]; omega) (by have := REP'.out.wl; omega)).mono ?_
              rintro e w6 ⟨Z6, rfl, n6, g6⟩
              have N6 := Lib.hid n6; have G6 := Lib.hid (G5.out.trans g6); have M6 := Lib.hid (M5.out.grow g6)
              clear n6 g6
              rcases HFL.out with ⟨fe, frep⟩ | ⟨fe, fdn, frep⟩
              · rw [fe]
                have FR := Lib.hid frep
                clear fe frep
                go_wp2
                go_roundw
                case rel =>
                  refine ⟨k + 1, k + 1, _, _, Z6, _, by omega, by go_num, by go_num, ?_, N6.out, G6.out, M6.out, MO5.out⟩
                  have := FR.out
                  rw [show (recs.take (k + 1)).length = k + 1 by rw [List.length_take]; omega] at this
                  exact this
                case measure => simp [intOf]; omega
              · rw [fe]
                have FR := Lib.hid frep; have FD := Lib.hid fdn
                clear fe frep fdn
                go_wp2_with fail
                refine (zd_down N6.out.zd).mono ?_
                rintro e w7 ⟨rfl, rfl⟩
                rw [FD.out]
                go_wp2
                go_roundw
                case rel => exact ⟨k + 1, f, _, _, Z6, _, by omega, rfl, by go_num, FR.out, N6.out, G6.out, M6.out, MO5.out⟩
                case measure => simp [intOf]; omega
            | false =>
              rw [hwk] at cb
              go_wp2
              go_roundw
              case rel => exact ⟨k + 1, f, _, _, Z4, _, by omega, rfl, by go_num, REP'.out.more, N5.out, G5.out, M5.out, MO5.out⟩
              case measure => simp [intOf]; omega
          · go_wp2
            go_roundw
            case rel => exact ⟨k + 1, f, _, _, Z4, _, by omega, rfl, by go_num, REP'.out.more, N5.out, G5.out, M5.out, MO5.out⟩
            case measure => simp [intOf]; omega
      · have HF := Lib.hid (RI.out.full (r := x) (by rw [← HUN.out]; exact hfit))
        go_wp2_with fail
        refine (zn_append NN.out _ x ((HBY.out.chg GG.out.chg (fun _ h => h.elim)).weaken (fun q _ hq => (GG.out.new q hq).elim (fun h => h.elim) id))).mono ?_
        rintro e w4 ⟨Z4, rfl, n4, g4⟩
        rw [HF.out]
        have G4 := Lib.hid (GG.out.trans g4)
        clear n4 g4 c0
        go_wp2
        go_ret
        exact ⟨rfl, (XA.out.trans G4.out.chg (fun _ h => h.elim)).below (fun _ h => h.elim) (Nat.le_refl _)⟩
    · obtain rfl : k = recs.length := by omega
      have hmm := MM.out
      rw [List.take_length] at hmm
      obtain ⟨ha, hc, hu11, hcc⟩ := hmm.form
      subst hu11
      have kc1 := cell_of_row wr w.heap.size 1 _ _ _ (GG.out.chg.heap CA.out (fun h => h))
      have HBK := Lib.hid (show BoolsAt wr Z (.slice rk n3 c3) ks by
        have := HK.out.chg GG.out.chg (fun _ h => h.elim)
        obtain ⟨ao, cp, e, hl, h⟩ := this
        refine ⟨ao, cp, e, hl, fun hp => ?_⟩
        obtain ⟨b, o, e2, hnb, hc⟩ := h hp
        have hbl := World.block_lt_of_cell? wr _ (hc 0 _ (List.getElem?_eq_getElem hp))
        refine ⟨b, o, e2, fun hz => ?_, hc⟩
        have h1 := GG.out.new b hz
        rcases h1 with h1 | h1
        · exact h1
        · exact hnb (by omega))
      have HM := Lib.hid hmm
      clear hmm
      go_wp2_with fail
      refine (zd_restart NN.out.zd _ ks HBK.out (by have := RI.out.wl; omega)).mono ?_
      rintro e w9 ⟨Z9, rfl, d9, g9⟩
      have D9 := Lib.hid d9; have G9 := Lib.hid (GG.out.trans g9); have M9 := Lib.hid (HM.out.grow g9)
      clear d9 g9 kc1
      obtain ⟨m, L', hfm, hml, hop, hup⟩ := RI.out.back ks D9.out.h64
      rw [List.take_length] at hml
      have hrt : (recs.take recs.length).take m = recs.take m := by rw [List.take_length]
      rw [hrt] at hop hup
      have hpl : (recs.take m).length = m := by rw [List.length_take]; omega
      have HOP := Lib.hid hop; have UPB := Lib.hid hup; have HPL := Lib.hid hpl
      have hbyt : (D.restart ks).byt := byt_restart RI.out.byt RI.out.sync ks
      have HBY9 := Lib.hid hbyt
      have hsy9 : Synced (D.restart ks) := hup.synced
      have HSY9 := Lib.hid hsy9
      have hw9 : (D.restart ks).wait.length = 0 := rfl
      have HW9 := Lib.hid hw9
      clear hop hup hrt hbyt hsy9 hw9
      generalize D.restart ks = DA at *
      have hc3 : recs.length ≤ 3168 := hcnt
      go_wp2_with fail
      refine (zd_open_ok D9.out HBY9.out.now HOP.out).mono ?_
      rintro e w10 ⟨l10, v10, Z10, rfl, n10, r10, g10, _⟩
      have N10 := Lib.hid n10; have G10 := Lib.hid (G9.out.trans g10); have R10 := Lib.hid r10; have M10 := Lib.hid (M9.out.grow g10)
      obtain ⟨_, pa, pc, hpv, _⟩ := r10
      rw [hpl] at hpv
      subst hpv
      clear n10 g10 hpl
      have RT := Lib.hid (M10.out.read.take m hc (by omega))
      go_wp2_with fail
      refine (same_any _ _ Z10 Z10 (recs.take m) (recs.take m) w10 R10.out RT.out).mono ?_
      rintro e w11 ⟨rfl, x11⟩
      rw [decide_eq_true rfl]
      have N11 := Lib.hid (N10.out.quiet x11); have G11 := Lib.hid (G10.out.quiet x11); have R11 := Lib.hid (R10.out.grow ⟨x11.mono (fun _ h => h.elim), fun k hk => .inl hk⟩)
      clear x11
      go_wp2_with fail
      refine (zd_restart N11.out.zd _ [] (BoolsAt.nil _ _) (by rw [HW9.out]; decide)).mono ?_
      rintro e w12 ⟨Z12, rfl, d12, g12⟩
      have D12 := Lib.hid d12; have G12 := Lib.hid (G11.out.trans g12); have R12 := Lib.hid (R11.out.grow g12)
      clear d12 g12
      obtain ⟨L2, hop2, hup2⟩ := UPB.out.back [] D12.out.h64
      rw [List.take_take, Nat.min_self] at hop2 hup2
      have hcalm : (DA.restart []).calm := restart_calm []
      have hby2 : (DA.restart []).byt := byt_restart HBY9.out HSY9.out []
      have hwt2 : (DA.restart []).wait.length = 0 := rfl
      have HOP2 := Lib.hid hop2; have UP2 := Lib.hid hup2; have CAL := Lib.hid hcalm; have BY2 := Lib.hid hby2; have HWT2 := Lib.hid hwt2
      clear hop2 hup2 hcalm hby2 hwt2
      generalize DA.restart [] = DB at *
      go_wp2_with fail
      refine (zd_open_ok D12.out BY2.out.now HOP2.out).mono ?_
      rintro e w13 ⟨l13, v13, Z13, rfl, n13, r13, g13, _⟩
      have N13 := Lib.hid n13; have G13 := Lib.hid (G12.out.trans g13); have R13 := Lib.hid (R12.out.grow g13); have Q13 := Lib.hid r13
      clear n13 r13 g13
      go_wp2_with fail
      refine (same_any _ _ Z13 Z13 (recs.take m) (recs.take m) w13 R13.out Q13.out).mono ?_
      rintro e w14 ⟨rfl, x14⟩
      rw [decide_eq_true rfl]
      have N14 := Lib.hid (N13.out.quiet x14); have G14 := Lib.hid (G13.out.quiet x14); have R14 := Lib.hid (R13.out.grow ⟨x14.mono (fun _ h => h.elim), fun k hk => .inl hk⟩)
      clear x14
      have kc := fun (w : World) (C : Array Value) (n c : Nat) => Lib.run_convert_bytes_const (P := Try.prog) w 22 5 C n c Try.underlying22 Try.underlying5
      by_cases hfit : (L2.st.length : Int) + 4 + ([110, 101, 119] : List Int).length ≤ (DB.size - 2) * 64
      · obtain ⟨L3, ha3, up3, _, _⟩ := UP2.out.append (r := [110, 101, 119]) hfit new_bytes
        obtain ⟨f4, k4, up4, _, _, _⟩ := up3.flushC CAL.out (by omega)
        have by4 : (flushR DB L3).2.1.byt := byt_flush BY2.out (by rw [up3.st]; exact flatF_bytes up3.ok)
        have HA3 := Lib.hid ha3; have UP3 := Lib.hid up3; have F4 := Lib.hid f4; have UP4 := Lib.hid up4; have BY4 := Lib.hid by4
        clear ha3 up3 f4 k4 up4 by4 hfit
        go_wp2_with fail
        refine (zn_append (N14.out.alloc _) _ [110, 101, 119] (BytR.lit w14 Z13 N14.out.lt [110, 101, 119] new_bytes (by decide) 3 (3, 4))).mono ?_
        rintro e w15 ⟨Z15, rfl, n15, g15⟩
        rw [HA3.out] at n15
        rw [HA3.out]
        have N15 := Lib.hid n15; have G15 := Lib.hid ((G14.out.alloc _).trans g15); have R15 := Lib.hid ((R14.out.grow ((Grow.refl _ _).alloc _)).grow g15)
        clear n15 g15
        go_wp2_with fail
        refine (zn_flush N15.out UP3.out.size.1 UP3.out.room (by rw [UP3.out.live.wait]; decide)).mono ?_
        rintro e w16 ⟨Z16, rfl, n16, g16⟩
        rw [F4.out]
        have N16 := Lib.hid n16; have G16 := Lib.hid (G15.out.trans g16); have R16 := Lib.hid (R15.out.grow g16)
        clear n16 g16
        obtain ⟨L17, hop17, _⟩ := UP4.out.opens N16.out.h64
        rw [List.take_length] at hop17
        have HOP17 := Lib.hid hop17
        clear hop17
        go_wp2_with fail
        refine (zd_open_cap N16.out.zd BY4.out.now HOP17.out).mono ?_
        rintro e w17 ⟨l17, v17, Z17, rfl, _, r17, g17, _, cp17⟩
        have G17 := Lib.hid (G16.out.trans g17); have R17 := Lib.hid (R16.out.grow g17); have Q17 := Lib.hid r17
        have hql : (recs.take m ++ [[110, 101, 119]]).length = m + 1 := by rw [List.length_append, HPL.out]; rfl
        obtain ⟨_, qa, qc, hqv, _⟩ := r17
        rw [hql] at hqv
        subst hqv
        have hqc := cp17 _ _ _ rfl
        clear g17 cp17
        have hqt := Q17.out.take m qc (by rw [hql]; omega)
        rw [List.take_append_of_le_length (by rw [HPL.out]; exact Nat.le_refl _), List.take_of_length_le (by rw [HPL.out]; exact Nat.le_refl _)] at hqt
        obtain ⟨b, o, ub, un, uc, rfl, hcell, hbyq, hbl, _⟩ := Q17.out.at_ m (by rw [hql]; omega)
        have hel : (recs.take m ++ [[110, 101, 119]])[m]'(by rw [hql]; omega) = [110, 101, 119] := by
          rw [List.getElem_append_right (by rw [HPL.out]; exact Nat.le_refl _)]
          simp [HPL.out]
        rw [hel] at hbyq
        have QT := Lib.hid hqt; have QB := Lib.hid hbyq; have QC := Lib.hid hcell
        clear hqt hbyq hcell hel hql
        go_wp2_with fail
        refine (same_any _ _ Z17 Z17 (recs.take m) (recs.take m) w17 QT.out R17.out).mono ?_
        rintro e w18 ⟨rfl, x18⟩
        rw [decide_eq_true rfl]
        have c18 : w18.cell? ⟨b, o + m, none⟩ = some (.slice ub un uc) := (cell_of_heap (x18.keep b hbl (fun h => h))).trans QC.out
        have hcv := (QB.out.chg x18 (fun _ h => h.elim)).conv 9 Try.underlying9
        rw [new_str] at hcv
        have G18 := Lib.hid (G17.out.quiet x18)
        clear x18
        go_wp2
        go_ret
        exact ⟨rfl, (XA.out.trans G18.out.chg (fun _ h => h.elim)).below (fun _ h => h.elim) (Nat.le_refl _)⟩
      · have HF := Lib.hid (appR_full DB L2 (r := [110, 101, 119]) (by omega))
        clear hfit
        go_wp2_with fail
        refine (zn_append (N14.out.alloc _) _ [110, 101, 119] (BytR.lit w14 Z13 N14.out.lt [110, 101, 119] new_bytes (by decide) 3 (3, 4))).mono ?_
        rintro e w15 ⟨Z15, rfl, n15, g15⟩
        rw [HF.out]
        have G15 := Lib.hid ((G14.out.alloc _).trans g15)
        clear n15 g15
        go_wp2
        go_ret
        exact ⟨rfl, (XA.out.trans G15.out.chg (fun _ h => h.elim)).below (fun _ h => h.elim) (Nat.le_refl _)⟩
end Go.Proofs.Ytihpobpkhhkejaa
