/-
  The walk of WalFills: it returns true, for every two small numbers.
-/
import Derived.Test.YtihpobpkhhkejaaWAwake
set_option autoImplicit false
namespace Go.Proofs.Ytihpobpkhhkejaa
open Go Go.RowKit

theorem flatF_rep (n k : Nat) : (flatF (List.replicate n (zrs k))).length = n * (k + 4) := by
  induction n with
  | zero => simp [flatF]
  | succ n ih =>
    have e : flatF (List.replicate (n + 1) (zrs k)) = frame (zrs k) ++ flatF (List.replicate n (zrs k)) := by simp [flatF, List.replicate_succ]
    rw [e, List.length_append, ih, frame_len, zrs_len, Nat.add_mul]; omega
set_option maxRecDepth 100000 in
set_option maxHeartbeats 4000000 in
theorem fills_walk (s n : Int) (w : World) (hs0 : 0 ≤ s) (hs1 : s ≤ 255) (hn0 : 0 ≤ n) (hn1 : n ≤ 255) :
    Calls Try.prog 8 #[.int .u8 s, .int .u8 n] w fun e w' => e = .returned (.bool true) ∧ Below w.heap.size w w' := by
  obtain ⟨S, hS⟩ : ∃ S : Nat, s % 20 + 3 = S := ⟨(s % 20 + 3).toNat, by omega⟩
  obtain ⟨k, hk⟩ : ∃ k : Nat, n % 90 = k := ⟨(n % 90).toNat, by omega⟩
  have hS3 : 3 ≤ S ∧ S ≤ 22 := by omega
  have hk9 : k ≤ 89 := by omega
  have hsz : (Dsk.new S).size = S := new_size S (by omega) (by omega)
  obtain ⟨L0, hop0, up0⟩ := up_new S (by omega) (by omega)
  have HOP0 := Lib.hid hop0; have UP0 := Lib.hid up0; have HSZ := Lib.hid hsz
  clear hop0 up0 hsz
  go_enter Try.func8, Try.ntmps8
  go_wp2_with fail
  refine (awake4 w).mono ?_
  rintro e w1 ⟨rfl, x1⟩
  have G1 := Lib.hid (show Grow (fun _ => False) w (fun _ => False) w1 from ⟨x1, fun _ h => .inl h⟩)
  clear x1
  go_wp2_with fail
  refine (zd_new S w1).mono ?_
  rintro e w2 ⟨r, Z1, rfl, d1, g1⟩
  have D1 := Lib.hid d1; have G2 := Lib.hid (G1.out.trans g1)
  clear d1 g1
  go_wp2_with fail
  refine (zd_open_ok D1.out (byt_new S).now HOP0.out).mono ?_
  rintro e w3 ⟨l, v3, Z3, rfl, n3, _, g3, _⟩
  have N3 := Lib.hid n3; have G3 := Lib.hid (G2.out.trans g3)
  clear n3 g3
  have hmk : ∀ w, (Instr.makeSlice 22 (.int .i64 (k : Int)) (.int .i64 (k : Int))).run Try.prog w = .ok (.slice (some ⟨w.heap.size, 0, none⟩) k k) (w.alloc (.cells ((zrs k).map (Value.int .u8)).toArray 5)) := fun w => run_makeB w k (by omega)
  obtain ⟨R, hR⟩ : ∃ R : Nat, 64 * ((S : Int) - 2) = R := ⟨(64 * ((S : Int) - 2)).toNat, by omega⟩
  have hR2 : R ≤ 1280 := by omega
  have HR := Lib.hid hR
  go_wp2
  clear hR hS hk
  go_loopw [12] (fun i wr => ∃ (c : Nat) (L : Lg) (Z : Nat → Prop), i = .int .i64 c ∧ c ≤ 320 ∧ LogUp (Dsk.new S) L (List.replicate c (zrs k)) 0 0 ∧ Zn wr Z r l (Dsk.new S) L ∧ Grow (fun _ => False) w Z wr) (fun i _ => 400 - (intOf i).toNat)
  case atStart => exact ⟨0, L0, Z3, rfl, by omega, UP0.out, N3.out, G3.out⟩
  case round =>
    obtain ⟨c, L, Z, rfl, hc3, hup, hn, hg⟩ := hrel
    have UP := Lib.hid hup; have NN := Lib.hid hn; have GG := Lib.hid hg
    clear hup hn hg
    obtain ⟨u, hu⟩ : ∃ u : Nat, u = c * (k + 4) := ⟨_, rfl⟩
    have hst : L.st.length = u := by rw [UP.out.st, flatF_rep, hu]
    have hroom := UP.out.room
    rw [hst, HSZ.out] at hroom
    have huR : u ≤ R := by have := HR.out; omega
    have hu1 : (c + 1) * (k + 4) = u + (k + 4) := by rw [hu, Nat.add_mul]; omega
    have hc4 : 4 * c ≤ u := by rw [hu, Nat.mul_comm]; exact Nat.mul_le_mul_left c (by omega)
    have HU := Lib.hid hu; have HST := Lib.hid hst; have HU1 := Lib.hid hu1
    clear hu hst hroom hu1
    by_cases hfit : u + (k + 4) ≤ R
    · obtain ⟨L', ha, up', hl', hw'⟩ := UP.out.append (r := zrs k) (by rw [HST.out, HSZ.out, zrs_len]; have := HR.out; omega) (zrs_bytes k)
      have HA := Lib.hid ha; have UP' := Lib.hid up'
      clear ha up' hl' hw'
      go_wp2_with fail
      refine (zn_append (NN.out.alloc _) _ (zrs k) (by have := BytR.lit wr Z NN.out.lt (zrs k) (zrs_bytes k) (by rw [zrs_len]; unfold maxLen; omega) k (0, 0); rw [zrs_len] at this; exact this)).mono ?_
      rintro e w4 ⟨Z4, rfl, n4, g4⟩
      rw [HA.out] at n4
      rw [HA.out]
      have N4 := Lib.hid n4; have G4 := Lib.hid ((GG.out.alloc _).trans g4)
      clear n4 g4
      go_wp2
      go_roundw
      case rel => exact ⟨c + 1, L', Z4, by go_num, by omega, by rw [List.replicate_succ']; exact UP'.out, N4.out, G4.out⟩
      case measure => simp [intOf]; omega
    · have HF := Lib.hid (appR_full (Dsk.new S) L (r := zrs k) (by rw [HST.out, HSZ.out, zrs_len]; have := HR.out; omega))
      have hdiv : (R : Int) / ((k : Int) + 4) = c := by
        have h1 : R / (k + 4) = c := Nat.div_eq_of_lt_le (by have := HU.out; omega) (by have := HU1.out; omega)
        have h2 : ((R / (k + 4) : Nat) : Int) = (R : Int) / ((k : Int) + 4) := by simp
        rw [← h2, h1]
      have hmul : (c : Int) * ((k : Int) + 4) = u := by rw [HU.out]; simp
      have HD := Lib.hid hdiv; have HM := Lib.hid hmul
      go_wp2_with fail
      refine (zn_append (NN.out.alloc _) _ (zrs k) (by have := BytR.lit wr Z NN.out.lt (zrs k) (zrs_bytes k) (by rw [zrs_len]; unfold maxLen; omega) k (0, 0); rw [zrs_len] at this; exact this)).mono ?_
      rintro e w4 ⟨Z4, rfl, n4, g4⟩
      rw [HF.out] at n4
      rw [HF.out]
      have N4 := Lib.hid n4; have G4 := Lib.hid ((GG.out.alloc _).trans g4)
      clear n4 g4
      have HWT := Lib.hid (show L.wait = c by rw [UP.out.wait]; simp)
      go_wp2_with fail
      refine (zn_used N4.out).mono ?_
      rintro e w5 ⟨rfl, rfl⟩
      rw [HST.out]
      go_wp2_with fail
      refine (zn_waiting N4.out).mono ?_
      rintro e w5 ⟨rfl, rfl⟩
      rw [HWT.out]
      clear hdiv
      by_cases hleft : u + 4 ≤ R
      · obtain ⟨m, hm⟩ : ∃ m : Nat, (R : Int) - u - 4 = m := ⟨R - u - 4, by omega⟩
        have hmk2 : ∀ w, (Instr.makeSlice 22 (.int .i64 (m : Int)) (.int .i64 (m : Int))).run Try.prog w = .ok (.slice (some ⟨w.heap.size, 0, none⟩) m m) (w.alloc (.cells ((zrs m).map (Value.int .u8)).toArray 5)) := fun w => run_makeB w m (by omega)
        obtain ⟨L', ha, up', hl', hw'⟩ := UP.out.append (r := zrs m) (by rw [HST.out, HSZ.out, zrs_len]; have := HR.out; omega) (zrs_bytes m)
        obtain ⟨f1, k1, up2, st2, wt2, z2⟩ := up'.flushC (new_calm S) (by decide)
        have by2 : (flushR (Dsk.new S) L').2.1.byt := byt_flush (byt_new S) (by rw [up'.st]; exact flatF_bytes up'.ok)
        have HA := Lib.hid ha; have UP' := Lib.hid up'; have F1 := Lib.hid f1; have UP2 := Lib.hid up2; have WT2 := Lib.hid wt2; have BY2 := Lib.hid by2
        have MB := Lib.hid (BytR.lit w4 Z4 N4.out.lt (zrs m) (zrs_bytes m) (by rw [zrs_len]; unfold maxLen; omega) m (0, 0))
        clear ha up' hl' hw' f1 k1 up2 st2 wt2 z2 by2
        go_wp2_with fail
        refine (zn_append (N4.out.alloc _) _ (zrs m) (by have := MB.out; rw [zrs_len] at this; exact this)).mono ?_
        rintro e w5 ⟨Z5, rfl, n5, g5⟩
        rw [HA.out] at n5
        rw [HA.out]
        have N5 := Lib.hid n5; have G5 := Lib.hid ((G4.out.alloc _).trans g5)
        clear n5 g5
        go_wp2_with fail
        refine (zn_flush N5.out (by rw [HSZ.out]; omega) UP'.out.room (show (0 : Nat) < 2800000000000 by decide)).mono ?_
        rintro e w6 ⟨Z6, rfl, n6, g6⟩
        rw [F1.out]
        have N6 := Lib.hid n6; have G6 := Lib.hid (G5.out.trans g6)
        clear n6 g6
        go_wp2_with fail
        refine (zn_waiting N6.out).mono ?_
        rintro e w7 ⟨rfl, rfl⟩
        rw [WT2.out]
        obtain ⟨L7, hop7, _⟩ := UP2.out.opens N6.out.h64
        have HOP7 := Lib.hid hop7
        clear hop7
        go_wp2_with fail
        refine (zd_open_ok N6.out.zd BY2.out.now HOP7.out).mono ?_
        rintro e w7 ⟨l7, v7, Z7, rfl, _, r7, g7, _⟩
        obtain ⟨_, p7, pc7, rfl, _⟩ := r7
        have hpl : (List.take (List.replicate c (zrs k) ++ [zrs m]).length (List.replicate c (zrs k) ++ [zrs m])).length = c + 1 := by simp
        rw [hpl]
        have G7 := Lib.hid (G6.out.trans g7)
        clear g7 hpl
        go_wp2
        go_ret
        exact ⟨rfl, G7.out.chg.below (fun _ h => h.elim) (Nat.le_refl _)⟩
      · obtain ⟨f1, k1, up2, st2, wt2, z2⟩ := UP.out.flushC (new_calm S) (by decide)
        have by2 : (flushR (Dsk.new S) L).2.1.byt := byt_flush (byt_new S) (by rw [UP.out.st]; exact flatF_bytes UP.out.ok)
        have F1 := Lib.hid f1; have UP2 := Lib.hid up2; have WT2 := Lib.hid wt2; have BY2 := Lib.hid by2
        clear f1 k1 up2 st2 wt2 z2 by2
        go_wp2_with fail
        refine (zn_flush N4.out (by rw [HSZ.out]; omega) UP.out.room (show (0 : Nat) < 2800000000000 by decide)).mono ?_
        rintro e w6 ⟨Z6, rfl, n6, g6⟩
        rw [F1.out]
        have N6 := Lib.hid n6; have G6 := Lib.hid (G4.out.trans g6)
        clear n6 g6
        go_wp2_with fail
        refine (zn_waiting N6.out).mono ?_
        rintro e w7 ⟨rfl, rfl⟩
        rw [WT2.out]
        obtain ⟨L7, hop7, _⟩ := UP2.out.opens N6.out.h64
        have HOP7 := Lib.hid hop7
        clear hop7
        go_wp2_with fail
        refine (zd_open_ok N6.out.zd BY2.out.now HOP7.out).mono ?_
        rintro e w7 ⟨l7, v7, Z7, rfl, _, r7, g7, _⟩
        obtain ⟨_, p7, pc7, rfl, _⟩ := r7
        have hpl : (List.take (List.replicate c (zrs k)).length (List.replicate c (zrs k))).length = c := by simp
        rw [hpl]
        have G7 := Lib.hid (G6.out.trans g7)
        clear g7 hpl
        go_wp2
        go_ret
        exact ⟨rfl, G7.out.chg.below (fun _ h => h.elim) (Nat.le_refl _)⟩
end Go.Proofs.Ytihpobpkhhkejaa
