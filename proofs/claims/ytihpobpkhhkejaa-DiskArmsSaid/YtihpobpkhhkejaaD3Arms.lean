/-
  The walk of DiskArms: it returns true, for every number and for both kinds of change.
-/
import Derived.Test.YtihpobpkhhkejaaD3A
set_option autoImplicit false
namespace Go.Proofs.Ytihpobpkhhkejaa
open Go Go.RowKit
theorem readR_len {D : Dsk} (h : D.ok) (n : Int) : (D.readR n).length = 64 := by
  unfold Dsk.readR
  split
  · exact h.2.2.2.2.1 n
  · exact sec0_len
structure ArmInv (n : Int) (i : Nat) (D : Dsk) : Prop where
  size : D.size = 2
  le : (i : Int) ≤ n + 1
  down : D.down = decide (n < (i : Int))
  left : D.left = n + 1 - i
  wait : D.wait.length ≤ i
theorem ArmInv.start (n : Int) (h0 : 0 ≤ n) : ArmInv n 0 ((Dsk.new 2).arm (n + 1)) := by
  unfold Dsk.arm
  refine ⟨rfl, by omega, ?_, ?_, Nat.le_refl 0⟩
  · show (n + 1 == 0) = decide (n < 0)
    rw [Bool.eq_iff_iff]; simp; omega
  · show (if n + 1 < -1 then -1 else n + 1) = n + 1 - 0
    rw [if_neg (by omega)]; omega
theorem ArmInv.change {n : Int} {i : Nat} {D : Dsk} (h : ArmInv n i D) (hn : (i : Int) ≤ n) {E : Dsk} (e1 : E.size = D.size) (e2 : E.left = D.left) (e3 : E.wait.length ≤ i + 1) : ArmInv n (i + 1) E.change := by
  have e : E.change = { E with left := E.left - 1, down := E.left - 1 == 0 } := by
    unfold Dsk.change
    rw [if_pos (by rw [e2, h.left]; omega)]
  rw [e]
  refine ⟨by show E.size = 2; rw [e1]; exact h.size, by omega, ?_, ?_, e3⟩
  · show (E.left - 1 == 0) = _
    rw [e2, h.left, Bool.eq_iff_iff]; simp; omega
  · show E.left - 1 = _; rw [e2, h.left]; omega
attribute [local go_sem ↓] exec_build_sec1 exec_build_sec0
set_option maxRecDepth 100000 in
set_option maxHeartbeats 1000000 in
theorem arms_walk (n : Int) (sync : Bool) (w : World) (hn0 : 0 ≤ n) (hn1 : n ≤ 255) :
    Calls Try.prog 6 #[.int .u8 n, .bool sync] w fun e w' => e = .returned (.bool true) ∧ Below w.heap.size w w' := by
  go_enter Try.func6, Try.ntmps6
  go_wp2_with (go_at_call 14; refine (awake3 _).mono ?_; rintro e w1 ⟨rfl, a1⟩)
  have A1 := Lib.hid a1
  have hb0 : w.heap.size ≤ w1.heap.size := a1.size
  clear a1
  refine (dk_new 2 w1).mono ?_
  rintro e w2 ⟨r, rfl, d2, b2⟩
  have B2 := Lib.hid (A1.out.trans b2 (fun x hx => .inr (Nat.le_trans A1.out.size hx.1))); have D2 := Lib.hid d2
  clear d2 b2
  go_wp2_with fail
  refine (dk_arm D2.out (n + 1) (by omega)).mono ?_
  rintro e w3 ⟨rfl, d3, b3⟩
  have B3 := Lib.hid (B2.out.trans b3 (fun x hx => .inr (Nat.le_trans A1.out.size hx.1))); have D3 := Lib.hid d3
  clear d3 b3
  have HZ := Lib.hid info_sec0
  go_wp2
  go_loopw [6] (fun i wr => ∃ (k : Nat) (D : Dsk), (k : Int) ≤ n + 1 ∧ i = .int .i64 k ∧ ArmInv n k D ∧ Dk w1.heap.size [] wr r D ∧ Below w.heap.size w wr) (fun i _ => (n + 1 - intOf i).toNat)
  case atStart => exact ⟨0, _, by omega, rfl, ArmInv.start n hn0, D3.out, B3.out.below (fun _ h => h.elim) (Nat.le_refl _)⟩
  case round =>
    obtain ⟨k, D, hk, rfl, hinv, hd, hbel⟩ := hrel
    have HI := Lib.hid hinv; have HD := Lib.hid hd; have HB := Lib.hid hbel
    clear hinv hd hbel
    by_cases hlt : (k : Int) ≤ n
    · have hdd : D.down = false := by rw [HI.out.down]; simp; omega
      have HDD := Lib.hid hdd
      have hsl : (D.now 1).length = 64 := HD.out.at_.ok.2.2.2.2.1 1
      have HSL := Lib.hid ((secC_len (D.now 1)).trans hsl); have HSI := Lib.hid (info_secC hsl); have HSO := Lib.hid (secC_one (D.now 1))
      clear hdd hsl
      go_wp2_with fail
      refine (dk_read_in HD.out HDD.out 1 (by decide) (by rw [HI.out.size]; decide)).mono ?_
      rintro e w4 ⟨rfl, d4, b4⟩
      have D4 := Lib.hid d4; have B4 := Lib.hid (HB.out.trans ((b4.below HD.out.le).mono hb0))
      clear d4 b4
      generalize secC (D.now 1) = cs at *
      go_wp2_with (first | (refine wpList_alloc_big rfl 31 64 rfl HZ.out (fun zs hzs => ?_); have HZS := Lib.hid hzs; clear hzs) | (refine wpList_store_new rfl 31 _ _ rfl cs _ rfl rfl rfl (HSL.out.trans HZS.out.symm) HSI.out HSO.out ?_))
      have D5 := Lib.hid ((D4.out.var (.cells cs.toArray 31)).drop (L' := []) (by simp)); have B5 := Lib.hid (B4.out.alloc (Nat.le_trans hb0 D4.out.le) (.cells cs.toArray 31))
      refine (dk_down D5.out).mono ?_
      rintro e w5 ⟨rfl, rfl⟩
      rw [HDD.out]
      go_wp2_with fail
      refine (dk_write_out D5.out 2 sec0 (by right; rw [HI.out.size]; decide) sec0_len (by have := HI.out.wait; omega)).mono ?_
      rintro e w6 ⟨rfl, d6, b6⟩
      have D6 := Lib.hid d6; have B6 := Lib.hid (B5.out.trans ((b6.below D5.out.le).mono hb0))
      clear d6 b6
      cases sync with
      | true =>
        go_wp2_with fail
        refine (dk_sync D6.out (by have := HI.out.wait; omega)).mono ?_
        rintro e w7 ⟨rfl, d7, b7⟩
        rw [HDD.out] at d7 ⊢
        have D7 := Lib.hid (show Dk _ _ _ _ D.sync from d7); have B7 := Lib.hid (B6.out.trans ((b7.below D6.out.le).mono hb0))
        have I7 := Lib.hid (show ArmInv n (k + 1) D.sync from HI.out.change hlt (E := D.flat) rfl rfl (Nat.zero_le _))
        clear d7 b7
        go_wp2
        go_roundw
        case rel => exact ⟨k + 1, _, by omega, by go_num, I7.out, D7.out, B7.out⟩
        case measure => simp [intOf]; omega
      | false =>
        go_wp2_with fail
        refine (dk_write D6.out 0 (secB (k : Int)) (secB_len _) (by have := HI.out.wait; omega)).mono ?_
        rintro e w7 ⟨rfl, d7, b7⟩
        have he : errOf D.size D.down 0 = 0 := by rw [HDD.out, HI.out.size]; rfl
        have e7 : D.writeR 0 (secB (k : Int)) = D.write 0 (secB (k : Int)) := by unfold Dsk.writeR; rw [if_pos he]
        rw [e7] at d7
        rw [he]
        have D7 := Lib.hid d7; have B7 := Lib.hid (B6.out.trans ((b7.below D6.out.le).mono hb0))
        have I7 := Lib.hid (show ArmInv n (k + 1) (D.write 0 (secB (k : Int))) from HI.out.change hlt (E := D.put 0 (secB (k : Int))) rfl rfl (by have := HI.out.wait; simp [Dsk.put]; omega))
        clear d7 b7 e7 he
        go_wp2
        go_roundw
        case rel => exact ⟨k + 1, _, by omega, by go_num, I7.out, D7.out, B7.out⟩
        case measure => simp [intOf]; omega
    · have hk1 : (k : Int) = n + 1 := by omega
      have hdd : D.down = true := by rw [HI.out.down]; simp; omega
      have hwl : D.wait.length < 3000000000000 := by have := HI.out.wait; omega
      have HDD := Lib.hid hdd; have HWL := Lib.hid hwl
      have he1 : errOf D.size D.down 1 = 24 := by rw [hdd, HI.out.size]; rfl
      have he0 : errOf D.size D.down 0 = 24 := by rw [hdd, HI.out.size]; rfl
      have hem : errOf D.size D.down (-1) = 1 := by rw [hdd, HI.out.size]; rfl
      have hr1 : D.readR 1 = sec0 := by unfold Dsk.readR; rw [if_neg (by rw [he1]; decide)]
      have hw0 : D.writeR 0 sec0 = D := by unfold Dsk.writeR; rw [if_neg (by rw [he0]; decide)]
      have hwm : D.writeR (-1) sec0 = D := by unfold Dsk.writeR; rw [if_neg (by rw [hem]; decide)]
      have ham : D.arm (-1) = D := by unfold Dsk.arm; rw [if_pos hdd]
      have E1 := Lib.hid he1; have E0 := Lib.hid he0; have EM := Lib.hid hem; have R1 := Lib.hid hr1; have W0 := Lib.hid hw0; have WM := Lib.hid hwm; have AM := Lib.hid ham
      have SL := Lib.hid ((secC_len sec0).trans sec0_len); have SI := Lib.hid (info_secC sec0_len); have SO := Lib.hid (secC_one sec0)
      clear hdd hwl he1 he0 hem hr1 hw0 hwm ham hk1
      go_wp2_with fail
      refine (dk_read HD.out 1).mono ?_
      rintro e w4 ⟨rfl, d4, b4⟩
      rw [E1.out, R1.out]
      have D4 := Lib.hid d4; have B4 := Lib.hid (HB.out.trans ((b4.below HD.out.le).mono hb0))
      clear d4 b4
      go_wp2_with (first | (refine wpList_alloc_big rfl 31 64 rfl HZ.out (fun zs hzs => ?_); have HZS := Lib.hid hzs; clear hzs) | (refine wpList_store_new rfl 31 _ _ rfl (secC sec0) _ rfl rfl rfl (SL.out.trans HZS.out.symm) SI.out SO.out ?_))
      have D5 := Lib.hid ((D4.out.var (.cells (secC sec0).toArray 31)).drop (L' := []) (by simp)); have B5 := Lib.hid (B4.out.alloc (Nat.le_trans hb0 D4.out.le) (.cells (secC sec0).toArray 31))
      refine (dk_down D5.out).mono ?_
      rintro e w5 ⟨rfl, rfl⟩
      rw [HDD.out]
      go_wp2_with fail
      refine (dk_write D5.out 0 sec0 sec0_len HWL.out).mono ?_
      rintro e w6 ⟨rfl, d6, b6⟩
      rw [W0.out] at d6
      rw [E0.out]
      have D6 := Lib.hid d6; have B6 := Lib.hid (B5.out.trans ((b6.below D5.out.le).mono hb0))
      clear d6 b6
      go_wp2_with fail
      refine (dk_sync D6.out HWL.out).mono ?_
      rintro e w7 ⟨rfl, d7, b7⟩
      rw [HDD.out] at d7 ⊢
      have D7 := Lib.hid (show Dk _ _ _ _ D from d7); have B7 := Lib.hid (B6.out.trans ((b7.below D6.out.le).mono hb0))
      clear d7 b7
      go_wp2_with fail
      refine (dk_write D7.out (-1) sec0 sec0_len HWL.out).mono ?_
      rintro e w8 ⟨rfl, d8, b8⟩
      rw [WM.out] at d8
      rw [EM.out]
      have D8 := Lib.hid d8; have B8 := Lib.hid (B7.out.trans ((b8.below D7.out.le).mono hb0))
      clear d8 b8
      go_wp2_with fail
      refine (dk_arm D8.out (-1) (by decide)).mono ?_
      rintro e w9 ⟨rfl, d9, b9⟩
      rw [AM.out] at d9
      have D9 := Lib.hid d9; have B9 := Lib.hid (B8.out.trans ((b9.below D8.out.le).mono hb0))
      clear d9 b9
      go_wp2_with fail
      refine (dclone_any r _ D w9 D9.out.at_ HWL.out).mono ?_
      rintro e w10 ⟨r', rfl, c10, x10⟩
      have D10 := Lib.hid ((D9.out.at_.mono (G := fun k => w1.heap.size ≤ k ∧ k < w9.heap.size) (fun k hk hl => ⟨hk.1, hl⟩)).chg x10 (fun _ _ h => h))
      have C10 := Lib.hid c10; have B10 := Lib.hid (B9.out.trans ((x10.below (fun _ h => h.elim) D9.out.le).mono hb0))
      have z10 := x10.size
      have z9 := D9.out.le
      clear c10 x10
      go_wp2_with fail
      refine (restart_any r _ D w10 (.slice none 0 0) [] D10.out (BoolsAt.nil _ _) HWL.out).mono ?_
      rintro e w11 ⟨rfl, d11, x11⟩
      have C11 := Lib.hid (C10.out.chg x11 (fun k hk h => by rcases hk with hk | hk; exact hk; omega))
      have D11 := Lib.hid d11; have B11 := Lib.hid (B10.out.trans ((x11.below (B := w1.heap.size) (fun _ h => h.1) (by omega)).mono hb0))
      have z11 := x11.size
      clear d11 x11
      go_wp2_with fail
      refine (read_ok r _ _ 0 w11 D11.out (by show errOf D.size false 0 = 0; rw [HI.out.size]; rfl)).mono ?_
      rintro e w12 ⟨rfl, x12⟩
      have C12 := Lib.hid (C11.out.chg x12 (fun _ _ h => h)); have D12 := Lib.hid (D11.out.chg x12 (fun _ _ h => h)); have B12 := Lib.hid (B11.out.trans ((x12.below (B := w1.heap.size) (fun _ h => h.elim) (by omega)).mono hb0))
      have z12 := x12.size
      clear x12
      go_wp2_with fail
      refine (down_any r' _ _ w12 C12.out).mono ?_
      rintro e w13 ⟨rfl, rfl⟩
      rw [HDD.out]
      go_wp2_with fail
      refine (down_any r _ _ w12 D12.out).mono ?_
      rintro e w13 ⟨rfl, rfl⟩
      rw [(restart_calm []).2]
      go_wp2_with fail
      refine (sync_any r _ _ w12 D12.out (by show 0 < _; omega)).mono ?_
      rintro e w14 ⟨rfl, d14, x14⟩
      rw [(restart_calm []).2]
      have B14 := Lib.hid (B12.out.trans ((x14.below (B := w1.heap.size) (fun k hk => by rcases hk with hk | hk <;> omega) (by omega)).mono hb0))
      clear d14 x14
      go_wp2
      go_ret
      exact ⟨rfl, B14.out⟩
end Go.Proofs.Ytihpobpkhhkejaa
