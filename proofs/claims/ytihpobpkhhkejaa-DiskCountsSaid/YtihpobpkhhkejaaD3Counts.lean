/-
  The walk of DiskCounts: it returns true, for every number and every list of writes.
-/
import Derived.Test.YtihpobpkhhkejaaD3A
set_option autoImplicit false
namespace Go.Proofs.Ytihpobpkhhkejaa
open Go Go.RowKit

/-- a slice of what somebody else owns: element i's cell j -/
def SlRd (w : World) (ao : Option Addr) (len sz : Nat) (V : Nat → Nat → Value) : Prop :=
  0 < len → ∃ b o, ao = some ⟨b, o, none⟩ ∧ b < w.heap.size ∧ ∀ i j, i < len → j < sz → w.cell? ⟨b, o + i * sz + j, none⟩ = some (V i j)
/-- what the disk of DiskCounts is after so many writes done -/
structure CntInv (n : Int) (done : Nat) (D : Dsk) : Prop where
  size : D.size = 6
  le : (done : Int) ≤ n
  down : D.down = decide (n ≤ (done : Int))
  left : D.left = n - done
  wait : D.wait.length = done
theorem CntInv.start (n : Int) (h0 : 0 ≤ n) : CntInv n 0 ((Dsk.new 6).arm n) := by
  unfold Dsk.arm
  refine ⟨rfl, by omega, ?_, ?_, rfl⟩
  · show (n == 0) = decide (n ≤ 0)
    rw [Bool.eq_iff_iff]; simp; omega
  · show (if n < -1 then -1 else n) = n - 0
    rw [if_neg (by omega)]; omega
theorem CntInv.write {n : Int} {done : Nat} {D : Dsk} (h : CntInv n done D) (hn : (done : Int) < n) (k : Int) (s : Sec) : CntInv n (done + 1) (D.write k s) := by
  have e : D.write k s = { D.put k s with left := D.left - 1, down := D.left - 1 == 0 } := by
    unfold Dsk.write Dsk.change
    rw [if_pos (by show 0 < D.left; rw [h.left]; omega)]
    rfl
  rw [e]
  refine ⟨h.size, by omega, ?_, ?_, ?_⟩
  · show (D.left - 1 == 0) = _
    rw [h.left]
    rw [Bool.eq_iff_iff]; simp; omega
  · show D.left - 1 = _; rw [h.left]; omega
  · simp [Dsk.put, h.wait]
set_option maxRecDepth 100000 in
set_option maxHeartbeats 1000000 in
theorem counts_walk (n : Int) (ao : Option Addr) (len cap : Nat) (pn pb : Nat → Int) (w : World) (hn0 : 0 ≤ n) (hn1 : n ≤ 255) (hlen : len ≤ maxLen)
    (hp : SlRd w ao len 2 (fun i j => if j = 0 then .int .i64 (pn i) else .int .u8 (pb i))) (hpr : ∀ i, i < len → -9223372036854775808 ≤ pn i ∧ pn i ≤ 9223372036854775807) :
    Calls Try.prog 4 #[.int .u8 n, .slice ao len cap] w fun e w' => e = .returned (.bool true) ∧ Below w.heap.size w w' := by
  unfold maxLen at hlen
  have HP := Lib.hid hp; have HPR := Lib.hid hpr
  clear hp hpr
  go_enter Try.func4, Try.ntmps4
  go_wp2_with (go_at_call 14; refine (awake3 _).mono ?_; rintro e w1 ⟨rfl, a1⟩)
  have A1 := Lib.hid a1
  clear a1
  refine (dk_new 6 w1).mono ?_
  rintro e w2 ⟨r, rfl, d2, b2⟩
  have B2 := Lib.hid (A1.out.trans b2 (fun x hx => .inr (Nat.le_trans A1.out.size hx.1))); have D2 := Lib.hid d2
  clear d2 b2
  go_wp2_with fail
  refine (dk_arm D2.out n (by omega)).mono ?_
  rintro e w3 ⟨rfl, d3, b3⟩
  have B3 := Lib.hid (B2.out.trans b3 (fun x hx => .inr (Nat.le_trans A1.out.size hx.1))); have D3 := Lib.hid d3
  clear d3 b3
  have hB := D3.out.le
  have hb0 : w.heap.size ≤ w1.heap.size := A1.out.size
  go_wp2
  go_loopw [6, 7] (fun dn i wr => ∃ (k done : Nat) (D : Dsk), k ≤ len ∧ k ≤ 300 ∧ done ≤ k ∧ i = .int .i64 k ∧ dn = .int .i64 done ∧ CntInv n done D ∧ Dk w1.heap.size [] wr r D ∧ Below w.heap.size w wr) (fun _ i _ => len - (intOf i).toNat)
  case atStart => exact ⟨0, 0, _, Nat.zero_le _, Nat.zero_le _, Nat.le_refl _, rfl, rfl, CntInv.start n hn0, D3.out, B3.out.below (fun _ h => h.elim) (Nat.le_refl _)⟩
  case round =>
    obtain ⟨k, done, D, hk, hk3, hdk, rfl, rfl, hinv, hd, hbel⟩ := hrel
    have HI := Lib.hid hinv; have HD := Lib.hid hd; have HB := Lib.hid hbel
    have hdn := hinv.le
    clear hinv hd hbel
    by_cases hlt : k < len
    · by_cases h3 : k < 300
      · obtain ⟨b, o, rfl, hbl, hc⟩ := HP.out (by omega)
        have hc0 : wr.cell? ⟨b, o + k * 2, none⟩ = some (.int .i64 (pn k)) := by
          have := hc k 0 hlt (by omega)
          exact (cell_of_heap (HB.out.block b hbl)).trans this
        obtain ⟨hr0, hr1⟩ := HPR.out k hlt
        clear hc
        generalize pn k = N at *
        by_cases hmay : 0 ≤ N ∧ N < 6
        · obtain ⟨hm0, hm1⟩ := hmay
          by_cases hdown : n ≤ (done : Int)
          · have he : errOf D.size D.down N = 24 := by
              rw [HI.out.size, HI.out.down]; unfold errOf; rw [if_neg (by omega), if_pos (by simpa using hdown)]
            have hdd : D.down = true := by rw [HI.out.down]; simpa using hdown
            have HE := Lib.hid he; have HDD := Lib.hid hdd
            clear he hdd
            go_wp2_with fail
            refine (dk_write HD.out N (secB 1) (secB_len 1) (by have := HI.out.wait; omega)).mono ?_
            rintro e w4 ⟨rfl, d4, b4⟩
            rw [HE.out]
            have hc4 := b4.cell (show b < w1.heap.size by omega) hc0
            have D4 := Lib.hid d4; have B4 := Lib.hid (HB.out.trans ((b4.below HD.out.le).mono hb0))
            clear d4 b4 hc0
            have e4 : D.writeR N (secB 1) = D := by unfold Dsk.writeR; rw [if_neg (by rw [HE.out]; decide)]
            have E4 := Lib.hid e4
            clear e4
            go_wp2_with fail
            refine (dk_down D4.out).mono ?_
            rintro e w5 ⟨rfl, rfl⟩
            rw [E4.out, HDD.out]
            go_wp2
            go_roundw
            case rel => exact ⟨k + 1, done, D, by omega, by omega, by omega, by go_num, rfl, HI.out, by rw [← E4.out]; exact D4.out, B4.out⟩
            case measure => simp [intOf]; omega
          · have he : errOf D.size D.down N = 0 := by
              rw [HI.out.size, HI.out.down]; unfold errOf; rw [if_neg (by omega), if_neg (by simpa using hdown)]
            have HE := Lib.hid he
            clear he
            go_wp2_with fail
            refine (dk_write HD.out N (secB 1) (secB_len 1) (by have := HI.out.wait; omega)).mono ?_
            rintro e w4 ⟨rfl, d4, b4⟩
            rw [HE.out]
            have hc4 := b4.cell (show b < w1.heap.size by omega) hc0
            have D4 := Lib.hid d4; have B4 := Lib.hid (HB.out.trans ((b4.below HD.out.le).mono hb0))
            clear d4 b4 hc0
            have e4 : D.writeR N (secB 1) = D.write N (secB 1) := by unfold Dsk.writeR; rw [if_pos HE.out]
            have hi4 : CntInv n (done + 1) (D.writeR N (secB 1)) := by rw [e4]; exact HI.out.write (by omega) _ _
            have E4 := Lib.hid e4; have I4 := Lib.hid hi4
            clear e4 hi4
            by_cases hd2 : n ≤ (done : Int) + 1
            · have hdd : (D.writeR N (secB 1)).down = true := by rw [I4.out.down]; simp; omega
              have HDD := Lib.hid hdd
              clear hdd
              go_wp2_with fail
              refine (dk_down D4.out).mono ?_
              rintro e w5 ⟨rfl, rfl⟩
              rw [HDD.out]
              go_wp2
              go_roundw
              case rel => exact ⟨k + 1, done + 1, _, by omega, by omega, by omega, by go_num, by go_num, I4.out, D4.out, B4.out⟩
              case measure => simp [intOf]; omega
            · have hdd : (D.writeR N (secB 1)).down = false := by rw [I4.out.down]; simp; omega
              have HDD := Lib.hid hdd
              clear hdd
              go_wp2_with fail
              refine (dk_down D4.out).mono ?_
              rintro e w5 ⟨rfl, rfl⟩
              rw [HDD.out]
              go_wp2
              go_roundw
              case rel => exact ⟨k + 1, done + 1, _, by omega, by omega, by omega, by go_num, by go_num, I4.out, D4.out, B4.out⟩
              case measure => simp [intOf]; omega
        · have he : errOf D.size D.down N = 1 := by
            rw [HI.out.size]; unfold errOf; rw [if_pos (by omega)]
          have HE := Lib.hid he
          have hdd : D.down = decide (n ≤ (done : Int)) := HI.out.down
          have e4 : D.writeR N (secB 1) = D := by unfold Dsk.writeR; rw [if_neg (by rw [he]; decide)]
          have E4 := Lib.hid e4; have HDD := Lib.hid hdd
          clear he e4 hdd
          by_cases hm0 : 0 ≤ N
          · have hm1 : 6 ≤ N := by omega
            clear hmay
            go_wp2_with fail
            refine (dk_write HD.out N (secB 1) (secB_len 1) (by have := HI.out.wait; omega)).mono ?_
            rintro e w4 ⟨rfl, d4, b4⟩
            rw [HE.out]
            have hc4 := b4.cell (show b < w1.heap.size by omega) hc0
            have D4 := Lib.hid d4; have B4 := Lib.hid (HB.out.trans ((b4.below HD.out.le).mono hb0))
            clear d4 b4 hc0
            go_wp2_with fail
            refine (dk_down D4.out).mono ?_
            rintro e w5 ⟨rfl, rfl⟩
            rw [E4.out, HDD.out]
            by_cases hdown : n ≤ (done : Int)
            all_goals
              go_wp2
              go_roundw
              case rel => exact ⟨k + 1, done, D, by omega, by omega, by omega, by go_num, rfl, HI.out, by rw [← E4.out]; exact D4.out, B4.out⟩
              case measure => simp [intOf]; omega
          · have hm1 : N < 0 := by omega
            clear hmay hm0
            go_wp2_with fail
            refine (dk_write HD.out N (secB 1) (secB_len 1) (by have := HI.out.wait; omega)).mono ?_
            rintro e w4 ⟨rfl, d4, b4⟩
            rw [HE.out]
            have hc4 := b4.cell (show b < w1.heap.size by omega) hc0
            have D4 := Lib.hid d4; have B4 := Lib.hid (HB.out.trans ((b4.below HD.out.le).mono hb0))
            clear d4 b4 hc0
            go_wp2_with fail
            refine (dk_down D4.out).mono ?_
            rintro e w5 ⟨rfl, rfl⟩
            rw [E4.out, HDD.out]
            by_cases hdown : n ≤ (done : Int)
            all_goals
              go_wp2
              go_roundw
              case rel => exact ⟨k + 1, done, D, by omega, by omega, by omega, by go_num, rfl, HI.out, by rw [← E4.out]; exact D4.out, B4.out⟩
              case measure => simp [intOf]; omega
      · go_wp2_with fail
        refine (dk_restart HD.out (.slice none 0 0) [] (BoolsAt.nil _ _) (by have := HI.out.wait; omega)).mono ?_
        rintro e w4 ⟨rfl, d4, b4⟩
        have D4 := Lib.hid d4; have B4 := Lib.hid (HB.out.trans ((b4.below HD.out.le).mono hb0))
        clear d4 b4
        go_wp2_with fail
        refine (dk_down D4.out).mono ?_
        rintro e w5 ⟨rfl, rfl⟩
        rw [(restart_calm []).2]
        go_wp2_with fail
        refine (dk_sync_calm D4.out (restart_calm []) (by simp [Dsk.restart])).mono ?_
        rintro e w6 ⟨rfl, d6, b6⟩
        have B6 := Lib.hid (B4.out.trans ((b6.below D4.out.le).mono hb0))
        clear d6 b6
        go_wp2
        go_ret
        exact ⟨rfl, B6.out⟩
    · go_wp2_with fail
      refine (dk_restart HD.out (.slice none 0 0) [] (BoolsAt.nil _ _) (by have := HI.out.wait; omega)).mono ?_
      rintro e w4 ⟨rfl, d4, b4⟩
      have D4 := Lib.hid d4; have B4 := Lib.hid (HB.out.trans ((b4.below HD.out.le).mono hb0))
      clear d4 b4
      go_wp2_with fail
      refine (dk_down D4.out).mono ?_
      rintro e w5 ⟨rfl, rfl⟩
      rw [(restart_calm []).2]
      go_wp2_with fail
      refine (dk_sync_calm D4.out (restart_calm []) (by simp [Dsk.restart])).mono ?_
      rintro e w6 ⟨rfl, d6, b6⟩
      have B6 := Lib.hid (B4.out.trans ((b6.below D4.out.le).mono hb0))
      clear d6 b6
      go_wp2
      go_ret
      exact ⟨rfl, B6.out⟩
end Go.Proofs.Ytihpobpkhhkejaa
