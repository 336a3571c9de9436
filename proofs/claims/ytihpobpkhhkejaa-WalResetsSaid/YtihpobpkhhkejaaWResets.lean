/-
  The walk of WalResets: it returns true, for every list of rows of bytes, every number and every list of bools.
-/
import Derived.Test.YtihpobpkhhkejaaWUpB
set_option autoImplicit false
namespace Go.Proofs.Ytihpobpkhhkejaa
open Go Go.RowKit

theorem x_bytes : Bytes [120] := by intro b hb; simp at hb; omega
theorem x_str : strOfNums [120] = ⟨#[120]⟩ := rfl
set_option maxRecDepth 100000 in
set_option maxHeartbeats 4000000 in
theorem resets_walk (ra rb : Option Addr) (n1 c1 n2 c2 : Nat) (at_ : Int) (recs : List (List Int)) (ks : List Bool) (w : World) (hr : RecsR w (fun k => w.heap.size ≤ k) (.slice ra n1 c1) recs) (hrl : ∀ r ∈ recs, r.length ≤ 2000000000000000000) (hcap : n1 ≤ c1) (hb : BoolsAt w (fun k => w.heap.size ≤ k) (.slice rb n2 c2) ks) (ha0 : 0 ≤ at_) (ha1 : at_ ≤ 255) :
    Calls Try.prog 12 #[.slice ra n1 c1, .int .u8 at_, .slice rb n2 c2] w fun e w' => e = .returned (.bool true) ∧ Below w.heap.size w w' := by
  have hlen := hr.len
  subst hlen
  have hsz : (Dsk.new 100).size = 100 := new_size 100 (by decide) (by decide)
  obtain ⟨L0, hop0, up0⟩ := up_new 100 (by decide) (by decide)
  have hrm := hr.1
  unfold maxLen at hrm
  have HR := Lib.hid hr; have HB := Lib.hid hb; have HOP0 := Lib.hid hop0; have UP0 := Lib.hid up0; have HSZ := Lib.hid hsz; have HRL := Lib.hid hrl
  clear hr hb hop0 up0 hsz hrl
  go_enter Try.func12, Try.ntmps12
  go_wp2_with fail
  refine (awake4 w).mono ?_
  rintro e w1 ⟨rfl, x1⟩
  have G1 := Lib.hid (show Grow (fun _ => False) w (fun _ => False) w1 from ⟨x1, fun _ h => .inl h⟩)
  clear x1
  go_wp2_with fail
  refine (zd_new 100 w1).mono ?_
  rintro e w2 ⟨r, Z1, rfl, d1, g1⟩
  have D1 := Lib.hid d1; have G2 := Lib.hid (G1.out.trans g1)
  clear d1 g1
  go_wp2_with fail
  refine (zd_open_ok D1.out (byt_new 100).now HOP0.out).mono ?_
  rintro e w3 ⟨l, v3, Z3, rfl, n3, _, g3, _⟩
  have N3 := Lib.hid n3; have G3 := Lib.hid (G2.out.trans g3)
  clear n3 g3
  go_wp2
  go_loopw [11, 12] (fun s11 s12 wr => ∃ (k : Nat) (L : Lg) (Z : Nat → Prop), k ≤ recs.length ∧ k ≤ 3000 ∧ s11 = .int .i64 k ∧ s12 = .int .i64 k ∧ LogUp (Dsk.new 100) L (recs.take k) 0 0 ∧ Zn wr Z r l (Dsk.new 100) L ∧ Grow (fun _ => False) w Z wr) (fun _ s12 _ => 4000 - (intOf s12).toNat)
  case atStart => exact ⟨0, L0, Z3, Nat.zero_le _, Nat.zero_le _, rfl, rfl, UP0.out, N3.out, G3.out⟩
  case round =>
    obtain ⟨k, L, Z, hk, hk3, rfl, rfl, hup, hn, hg⟩ := hrel
    have UP := Lib.hid hup; have NN := Lib.hid hn; have GG := Lib.hid hg
    clear hup hn hg
    by_cases hk1 : k < recs.length
    · obtain ⟨b, o, ub, un, uc, rfl, hcell, hby, hbl, _⟩ := HR.out.at_ k hk1
      have hun := hby.get.1
      have c0 : wr.cell? ⟨b, o + k, none⟩ = some (.slice ub un uc) := (cell_of_heap (GG.out.chg.keep b hbl (fun h => h))).trans hcell
      have HBY := Lib.hid hby; have HUN := Lib.hid hun
      have htk := List.take_succ_eq_append_getElem hk1
      have HTK := Lib.hid htk
      clear hcell hby hun htk
      generalize recs[k] = x at *
      by_cases hfit : (L.st.length : Int) + 4 + un ≤ 6272
      · obtain ⟨L', ha, up', hl', hw'⟩ := UP.out.append (r := x) (by rw [HSZ.out, ← HUN.out]; omega) HBY.out.1
        rw [← HTK.out] at up'
        have hcnt : k + 1 ≤ 3000 := by
          have h1 := flatF_count (recs.take (k + 1))
          have h2 := up'.room
          rw [up'.st, HSZ.out] at h2
          have h3 : (recs.take (k + 1)).length = k + 1 := by rw [List.length_take]; omega
          omega
        have HA := Lib.hid ha; have UP' := Lib.hid up'
        clear ha up' hl' hw'
        go_wp2_with fail
        refine (zn_append NN.out _ x ((HBY.out.chg GG.out.chg (fun _ h => h.elim)).weaken (fun q _ hq => (GG.out.new q hq).elim (fun h => h.elim) id))).mono ?_
        rintro e w4 ⟨Z4, rfl, n4, g4⟩
        rw [HA.out] at n4
        rw [HA.out]
        have N4 := Lib.hid n4; have G4 := Lib.hid (GG.out.trans g4)
        clear n4 g4 c0
        go_wp2
        go_roundw
        case rel => exact ⟨k + 1, L', Z4, by omega, hcnt, by go_num, by go_num, UP'.out, N4.out, G4.out⟩
        case measure => simp [intOf]; omega
      · have HF := Lib.hid (appR_full (Dsk.new 100) L (r := x) (by rw [HSZ.out, ← HUN.out]; omega))
        go_wp2_with fail
        refine (zn_append NN.out _ x ((HBY.out.chg GG.out.chg (fun _ h => h.elim)).weaken (fun q _ hq => (GG.out.new q hq).elim (fun h => h.elim) id))).mono ?_
        rintro e w4 ⟨Z4, rfl, n4, g4⟩
        rw [HF.out]
        have G4 := Lib.hid (GG.out.trans g4)
        clear n4 g4 c0
        go_wp2
        go_ret
        exact ⟨rfl, G4.out.chg.below (fun _ h => h.elim) (Nat.le_refl _)⟩
    · obtain rfl : k = recs.length := by omega
      have hupt := UP.out
      rw [List.take_length] at hupt
      obtain ⟨f1, k1, up2, st2, wt2, z2⟩ := hupt.flushC (new_calm 100) (by decide)
      have by2 : (flushR (Dsk.new 100) L).2.1.byt := byt_flush (byt_new 100) (by rw [hupt.st]; exact flatF_bytes hupt.ok)
      have F1 := Lib.hid f1; have BY2 := Lib.hid by2; have HUPT := Lib.hid hupt
      generalize hD2 : (flushR (Dsk.new 100) L).2.1 = D2 at *
      generalize hL2 : (flushR (Dsk.new 100) L).2.2 = L2 at *
      have UP2 := Lib.hid up2; have HD2 := Lib.hid hD2; have HL2 := Lib.hid hL2; have SZ2 := Lib.hid (z2.trans HSZ.out)
      clear f1 k1 up2 st2 wt2 z2 by2 hD2 hL2 hupt
      obtain ⟨q, hq⟩ : ∃ q : Int, at_ % 4 = q := ⟨_, rfl⟩
      have hq0 : 0 ≤ q ∧ q < 4 := by omega
      have pl := resets_plain UP2.out BY2.out q hq0.1 hq0.2 (by decide)
      have hzz : (D2.arm q).size = 100 := by rw [← SZ2.out]; unfold Dsk.arm; split <;> rfl
      have PL := Lib.hid pl; have HZZ := Lib.hid hzz
      have hww : (D2.arm q).wait.length = 0 := by
        have : (D2.arm q).wait = D2.wait := by unfold Dsk.arm; split <;> rfl
        rw [this, UP2.out.live.wait]; rfl
      have HWW := Lib.hid hww
      clear pl hzz hww
      go_wp2_with fail
      refine (zn_flush NN.out (by rw [HSZ.out]; decide) HUPT.out.room (by decide)).mono ?_
      rintro e w6 ⟨Z6, rfl, n6, g6⟩
      rw [F1.out]
      rw [HD2.out, HL2.out] at n6
      have N6 := Lib.hid n6; have G6 := Lib.hid (GG.out.trans g6)
      clear n6 g6
      go_wp2_with fail
      refine (zn_arm N6.out q (by omega)).mono ?_
      rintro e w7 ⟨Z7, rfl, n7, g7⟩
      have N7 := Lib.hid n7; have G7 := Lib.hid (G6.out.trans g7)
      clear n7 g7
      go_wp2_with fail
      refine (zn_reset N7.out (by rw [HZZ.out]; decide) (by rw [HWW.out]; decide)).mono ?_
      rintro e w8 ⟨Z8, rfl, n8, g8⟩
      have N8 := Lib.hid n8; have G8 := Lib.hid (G7.out.trans g8)
      clear n8 g8
      obtain ⟨p1, p2, p3, p4, p5, p6⟩ := PL.out
      have HBK := Lib.hid (show BoolsAt w8 Z8 (.slice rb n2 c2) ks by
        have := HB.out.chg G8.out.chg (fun _ h => h.elim)
        obtain ⟨ao, cp, e, hl, h⟩ := this
        refine ⟨ao, cp, e, hl, fun hp => ?_⟩
        obtain ⟨b, o, e2, hnb, hc⟩ := h hp
        exact ⟨b, o, e2, fun hz => (G8.out.new b hz).elim (fun h => h) hnb, hc⟩)
      obtain ⟨ec, hec⟩ : ∃ ec : Int, ec = (if 2 ≤ q then 0 else 24) := ⟨_, rfl⟩
      rw [p1, ← hec]
      generalize hD8 : (sealR (D2.arm q) L2 0).2.1 = D8 at *
      generalize hL8 : (sealR (D2.arm q) L2 0).2.2 = L8 at *
      have P2 := Lib.hid p2; have P3 := Lib.hid p3; have P4 := Lib.hid p4; have P5 := Lib.hid p5; have P6 := Lib.hid p6
      clear p1 p2 p3 p4 p5 p6 hD8 hL8 PL
      have hec2 : (2 ≤ q ∧ ec = 0) ∨ (q < 2 ∧ ec = 24) := by
        by_cases h2 : 2 ≤ q
        · rw [if_pos h2] at hec; exact .inl ⟨h2, hec⟩
        · rw [if_neg h2] at hec; exact .inr ⟨by omega, hec⟩
      clear hec hq
      rcases hec2 with ⟨h2, rfl⟩ | ⟨h2, rfl⟩
      · go_wp2_with fail
        refine (zd_down N8.out.zd).mono ?_
        rintro e w9 ⟨rfl, rfl⟩
        rw [P2.out]
        go_wp2_with fail
        refine (zd_restart N8.out.zd _ ks HBK.out (by have := P5.out; omega)).mono ?_
        rintro e w9 ⟨Z9, rfl, d9, g9⟩
        have D9 := Lib.hid d9; have G9 := Lib.hid (G8.out.trans g9)
        clear d9 g9
        obtain ⟨L', qs, hop, up, hqs, hq0⟩ := P6.out ks D9.out.h64
        obtain rfl := hq0 h2
        have HOP := Lib.hid hop; have UPB := Lib.hid up
        clear hop up hqs hq0
        go_wp2_with fail
        refine (zd_open_ok D9.out (byt_restart P4.out P3.out ks).now HOP.out).mono ?_
        rintro e w10 ⟨l10, v10, Z10, rfl, n10, r10, g10, _⟩
        have N10 := Lib.hid n10; have G10 := Lib.hid (G9.out.trans g10)
        obtain ⟨_, pa, pc, rfl, _⟩ := r10
        clear n10 g10
        go_wp2_with fail
        have hcal : (D8.restart ks).calm := restart_calm ks
        have hbt : (D8.restart ks).byt := byt_restart P4.out P3.out ks
        obtain ⟨f6, k6, up7, st7, z7⟩ := UPB.out.resetC hcal (by decide)
        have by7 : (sealR (D8.restart ks) L' 0).2.1.byt := byt_seal hbt _ _
        have hrs := UPB.out.size
        have F6 := Lib.hid f6; have BY7 := Lib.hid by7
        generalize hD7 : (sealR (D8.restart ks) L' 0).2.1 = D7 at *
        generalize hL7 : (sealR (D8.restart ks) L' 0).2.2 = L7 at *
        have UP7 := Lib.hid up7; have K7 := Lib.hid k6; have HD7 := Lib.hid hD7; have HL7 := Lib.hid hL7; have ST7 := Lib.hid (show L7.st.length = 0 by rw [st7]; rfl); have Z7 := Lib.hid z7
        obtain ⟨L11, ha11, up11, _, _⟩ := up7.append (r := [120]) (by rw [ST7.out, z7]; simp; omega) x_bytes
        obtain ⟨f11, k11, up12, st12, _, z12⟩ := up11.flushC k6 (by decide)
        have by12 : (flushR D7 L11).2.1.byt := byt_flush by7 (by rw [up11.st]; exact flatF_bytes up11.ok)
        have HA11 := Lib.hid ha11; have UP11 := Lib.hid up11; have F11 := Lib.hid f11; have BY12 := Lib.hid by12
        generalize hD12 : (flushR D7 L11).2.1 = D12 at *
        generalize hL12 : (flushR D7 L11).2.2 = L12 at *
        have UP12 := Lib.hid up12; have HD12 := Lib.hid hD12; have HL12 := Lib.hid hL12
        have HS7 := Lib.hid up7.size; have HSR := Lib.hid hrs
        clear f6 k6 up7 st7 z7 by7 hD7 hL7 ha11 up11 f11 k11 up12 st12 z12 by12 hD12 hL12 hcal hbt hrs
        refine (zn_reset N10.out HSR.out.1 (by rw [UPB.out.live.wait]; decide)).mono ?_
        rintro e w12 ⟨Z12, rfl, n12, g12⟩
        rw [F6.out]
        rw [HD7.out, HL7.out] at n12
        have N12 := Lib.hid n12; have G12 := Lib.hid (G10.out.trans g12)
        clear n12 g12
        go_wp2_with fail
        refine (zn_used N12.out).mono ?_
        rintro e w13 ⟨rfl, rfl⟩
        rw [ST7.out]
        have kc := fun (w : World) (C : Array Value) (n c : Nat) => Lib.run_convert_bytes_const (P := Try.prog) w 22 5 C n c Try.underlying22 Try.underlying5
        go_wp2_with fail
        refine (zn_append (N12.out.alloc _) _ [120] (BytR.lit w12 Z12 N12.out.lt [120] x_bytes (by decide) 1 (1, 2))).mono ?_
        rintro e w14 ⟨Z14, rfl, n14, g14⟩
        rw [HA11.out] at n14
        rw [HA11.out]
        have N14 := Lib.hid n14; have G14 := Lib.hid ((G12.out.alloc _).trans g14)
        clear n14 g14
        go_wp2_with fail
        refine (zn_flush N14.out HS7.out.1 UP11.out.room (by rw [UP11.out.live.wait]; decide)).mono ?_
        rintro e w15 ⟨Z15, rfl, n15, g15⟩
        rw [F11.out]
        rw [HD12.out, HL12.out] at n15
        have N15 := Lib.hid n15; have G15 := Lib.hid (G14.out.trans g15)
        clear n15 g15
        obtain ⟨L16, hop16, _⟩ := UP12.out.opens N15.out.h64
        have HOP16 := Lib.hid (show openR D12 = (0, some (L16, [[120]])) from hop16)
        clear hop16
        go_wp2_with fail
        refine (zd_open_ok N15.out.zd BY12.out.now HOP16.out).mono ?_
        rintro e w16 ⟨l16, v16, Z16, rfl, _, r16, g16, _⟩
        have G16 := Lib.hid (G15.out.trans g16)
        clear g16
        obtain ⟨_, p16, pc16, rfl, hp16⟩ := r16
        obtain ⟨pb2, po2, rfl, _, hpc2⟩ := hp16 (by simp)
        obtain ⟨u2, hu2, hub2⟩ := hpc2 0 (by simp)
        have hcv := hub2.conv 9 Try.underlying9
        simp only [Nat.add_zero, List.getElem_cons_zero] at hu2 hcv
        rw [x_str] at hcv
        clear hp16 hpc2 hub2
        go_wp2
        go_ret
        exact ⟨rfl, G16.out.chg.below (fun _ h => h.elim) (Nat.le_refl _)⟩
      · go_wp2_with fail
        refine (zd_down N8.out.zd).mono ?_
        rintro e w9 ⟨rfl, rfl⟩
        rw [P2.out]
        go_wp2_with fail
        refine (zd_restart N8.out.zd _ ks HBK.out (by have := P5.out; omega)).mono ?_
        rintro e w9 ⟨Z9, rfl, d9, g9⟩
        have D9 := Lib.hid d9; have G9 := Lib.hid (G8.out.trans g9)
        clear d9 g9
        obtain ⟨L', qs, hop, up, hqs, hq0⟩ := P6.out ks D9.out.h64
        have HOP := Lib.hid hop; have UPB := Lib.hid up
        clear hop up hq0
        go_wp2_with fail
        refine (zd_open_ok D9.out (byt_restart P4.out P3.out ks).now HOP.out).mono ?_
        rintro e w10 ⟨l10, v10, Z10, rfl, n10, r10, g10, _⟩
        have N10 := Lib.hid n10; have G10 := Lib.hid (G9.out.trans g10); have R10 := Lib.hid r10
        obtain ⟨_, pa, pc, rfl, _⟩ := r10
        clear n10 g10
        by_cases hqe : qs = []
        · subst hqe
          go_wp2_with fail
          have hcal : (D8.restart ks).calm := restart_calm ks
          have hbt : (D8.restart ks).byt := byt_restart P4.out P3.out ks
          obtain ⟨f6, k6, up7, st7, z7⟩ := UPB.out.resetC hcal (by decide)
          have by7 : (sealR (D8.restart ks) L' 0).2.1.byt := byt_seal hbt _ _
          have hrs := UPB.out.size
          have F6 := Lib.hid f6; have BY7 := Lib.hid by7
          generalize hD7 : (sealR (D8.restart ks) L' 0).2.1 = D7 at *
          generalize hL7 : (sealR (D8.restart ks) L' 0).2.2 = L7 at *
          have UP7 := Lib.hid up7; have K7 := Lib.hid k6; have HD7 := Lib.hid hD7; have HL7 := Lib.hid hL7; have ST7 := Lib.hid (show L7.st.length = 0 by rw [st7]; rfl); have Z7 := Lib.hid z7
          obtain ⟨L11, ha11, up11, _, _⟩ := up7.append (r := [120]) (by rw [ST7.out, z7]; simp; omega) x_bytes
          obtain ⟨f11, k11, up12, st12, _, z12⟩ := up11.flushC k6 (by decide)
          have by12 : (flushR D7 L11).2.1.byt := byt_flush by7 (by rw [up11.st]; exact flatF_bytes up11.ok)
          have HA11 := Lib.hid ha11; have UP11 := Lib.hid up11; have F11 := Lib.hid f11; have BY12 := Lib.hid by12
          generalize hD12 : (flushR D7 L11).2.1 = D12 at *
          generalize hL12 : (flushR D7 L11).2.2 = L12 at *
          have UP12 := Lib.hid up12; have HD12 := Lib.hid hD12; have HL12 := Lib.hid hL12
          have HS7 := Lib.hid up7.size; have HSR := Lib.hid hrs
          clear f6 k6 up7 st7 z7 by7 hD7 hL7 ha11 up11 f11 k11 up12 st12 z12 by12 hD12 hL12 hcal hbt hrs
          refine (zn_reset N10.out HSR.out.1 (by rw [UPB.out.live.wait]; decide)).mono ?_
          rintro e w12 ⟨Z12, rfl, n12, g12⟩
          rw [F6.out]
          rw [HD7.out, HL7.out] at n12
          have N12 := Lib.hid n12; have G12 := Lib.hid (G10.out.trans g12)
          clear n12 g12
          go_wp2_with fail
          refine (zn_used N12.out).mono ?_
          rintro e w13 ⟨rfl, rfl⟩
          rw [ST7.out]
          have kc := fun (w : World) (C : Array Value) (n c : Nat) => Lib.run_convert_bytes_const (P := Try.prog) w 22 5 C n c Try.underlying22 Try.underlying5
          go_wp2_with fail
          refine (zn_append (N12.out.alloc _) _ [120] (BytR.lit w12 Z12 N12.out.lt [120] x_bytes (by decide) 1 (1, 2))).mono ?_
          rintro e w14 ⟨Z14, rfl, n14, g14⟩
          rw [HA11.out] at n14
          rw [HA11.out]
          have N14 := Lib.hid n14; have G14 := Lib.hid ((G12.out.alloc _).trans g14)
          clear n14 g14
          go_wp2_with fail
          refine (zn_flush N14.out HS7.out.1 UP11.out.room (by rw [UP11.out.live.wait]; decide)).mono ?_
          rintro e w15 ⟨Z15, rfl, n15, g15⟩
          rw [F11.out]
          rw [HD12.out, HL12.out] at n15
          have N15 := Lib.hid n15; have G15 := Lib.hid (G14.out.trans g15)
          clear n15 g15
          obtain ⟨L16, hop16, _⟩ := UP12.out.opens N15.out.h64
          have HOP16 := Lib.hid (show openR D12 = (0, some (L16, [[120]])) from hop16)
          clear hop16
          go_wp2_with fail
          refine (zd_open_ok N15.out.zd BY12.out.now HOP16.out).mono ?_
          rintro e w16 ⟨l16, v16, Z16, rfl, _, r16, g16, _⟩
          have G16 := Lib.hid (G15.out.trans g16)
          clear g16
          obtain ⟨_, p16, pc16, rfl, hp16⟩ := r16
          obtain ⟨pb2, po2, rfl, _, hpc2⟩ := hp16 (by simp)
          obtain ⟨u2, hu2, hub2⟩ := hpc2 0 (by simp)
          have hcv := hub2.conv 9 Try.underlying9
          simp only [Nat.add_zero, List.getElem_cons_zero] at hu2 hcv
          rw [x_str] at hcv
          clear hp16 hpc2 hub2
          go_wp2
          go_ret
          exact ⟨rfl, G16.out.chg.below (fun _ h => h.elim) (Nat.le_refl _)⟩
        · obtain rfl := hqs.resolve_right hqe
          have hne : 0 < qs.length := List.length_pos_iff.2 hqe
          have RT := Lib.hid ((HR.out.chg G10.out.chg (fun _ h => h.elim)).take qs.length c1 (Nat.le_refl _))
          go_wp2_with fail
          refine (same_any _ _ Z10 _ qs _ w10 R10.out RT.out).mono ?_
          rintro e w11 ⟨rfl, x11⟩
          rw [List.take_length, decide_eq_true rfl]
          have N10 := Lib.hid (N10.out.quiet x11); have G10 := Lib.hid (G10.out.quiet x11)
          clear x11
          go_wp2_with fail
          have hcal : (D8.restart ks).calm := restart_calm ks
          have hbt : (D8.restart ks).byt := byt_restart P4.out P3.out ks
          obtain ⟨f6, k6, up7, st7, z7⟩ := UPB.out.resetC hcal (by decide)
          have by7 : (sealR (D8.restart ks) L' 0).2.1.byt := byt_seal hbt _ _
          have hrs := UPB.out.size
          have F6 := Lib.hid f6; have BY7 := Lib.hid by7
          generalize hD7 : (sealR (D8.restart ks) L' 0).2.1 = D7 at *
          generalize hL7 : (sealR (D8.restart ks) L' 0).2.2 = L7 at *
          have UP7 := Lib.hid up7; have K7 := Lib.hid k6; have HD7 := Lib.hid hD7; have HL7 := Lib.hid hL7; have ST7 := Lib.hid (show L7.st.length = 0 by rw [st7]; rfl); have Z7 := Lib.hid z7
          obtain ⟨L11, ha11, up11, _, _⟩ := up7.append (r := [120]) (by rw [ST7.out, z7]; simp; omega) x_bytes
          obtain ⟨f11, k11, up12, st12, _, z12⟩ := up11.flushC k6 (by decide)
          have by12 : (flushR D7 L11).2.1.byt := byt_flush by7 (by rw [up11.st]; exact flatF_bytes up11.ok)
          have HA11 := Lib.hid ha11; have UP11 := Lib.hid up11; have F11 := Lib.hid f11; have BY12 := Lib.hid by12
          generalize hD12 : (flushR D7 L11).2.1 = D12 at *
          generalize hL12 : (flushR D7 L11).2.2 = L12 at *
          have UP12 := Lib.hid up12; have HD12 := Lib.hid hD12; have HL12 := Lib.hid hL12
          have HS7 := Lib.hid up7.size; have HSR := Lib.hid hrs
          clear f6 k6 up7 st7 z7 by7 hD7 hL7 ha11 up11 f11 k11 up12 st12 z12 by12 hD12 hL12 hcal hbt hrs
          refine (zn_reset N10.out HSR.out.1 (by rw [UPB.out.live.wait]; decide)).mono ?_
          rintro e w12 ⟨Z12, rfl, n12, g12⟩
          rw [F6.out]
          rw [HD7.out, HL7.out] at n12
          have N12 := Lib.hid n12; have G12 := Lib.hid (G10.out.trans g12)
          clear n12 g12
          go_wp2_with fail
          refine (zn_used N12.out).mono ?_
          rintro e w13 ⟨rfl, rfl⟩
          rw [ST7.out]
          have kc := fun (w : World) (C : Array Value) (n c : Nat) => Lib.run_convert_bytes_const (P := Try.prog) w 22 5 C n c Try.underlying22 Try.underlying5
          go_wp2_with fail
          refine (zn_append (N12.out.alloc _) _ [120] (BytR.lit w12 Z12 N12.out.lt [120] x_bytes (by decide) 1 (1, 2))).mono ?_
          rintro e w14 ⟨Z14, rfl, n14, g14⟩
          rw [HA11.out] at n14
          rw [HA11.out]
          have N14 := Lib.hid n14; have G14 := Lib.hid ((G12.out.alloc _).trans g14)
          clear n14 g14
          go_wp2_with fail
          refine (zn_flush N14.out HS7.out.1 UP11.out.room (by rw [UP11.out.live.wait]; decide)).mono ?_
          rintro e w15 ⟨Z15, rfl, n15, g15⟩
          rw [F11.out]
          rw [HD12.out, HL12.out] at n15
          have N15 := Lib.hid n15; have G15 := Lib.hid (G14.out.trans g15)
          clear n15 g15
          obtain ⟨L16, hop16, _⟩ := UP12.out.opens N15.out.h64
          have HOP16 := Lib.hid (show openR D12 = (0, some (L16, [[120]])) from hop16)
          clear hop16
          go_wp2_with fail
          refine (zd_open_ok N15.out.zd BY12.out.now HOP16.out).mono ?_
          rintro e w16 ⟨l16, v16, Z16, rfl, _, r16, g16, _⟩
          have G16 := Lib.hid (G15.out.trans g16)
          clear g16
          obtain ⟨_, p16, pc16, rfl, hp16⟩ := r16
          obtain ⟨pb2, po2, rfl, _, hpc2⟩ := hp16 (by simp)
          obtain ⟨u2, hu2, hub2⟩ := hpc2 0 (by simp)
          have hcv := hub2.conv 9 Try.underlying9
          simp only [Nat.add_zero, List.getElem_cons_zero] at hu2 hcv
          rw [x_str] at hcv
          clear hp16 hpc2 hub2
          go_wp2
          go_ret
          exact ⟨rfl, G16.out.chg.below (fun _ h => h.elim) (Nat.le_refl _)⟩
end Go.Proofs.Ytihpobpkhhkejaa
