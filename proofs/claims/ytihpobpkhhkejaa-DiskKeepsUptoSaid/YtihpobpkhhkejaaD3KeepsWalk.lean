/-
  The walk of DiskKeeps: it returns true, for every list of writes ahead of the Sync and behind it, and every list of what is kept. Condition: the first two lists are of at most 1048576 elements.
-/
import Derived.Test.YtihpobpkhhkejaaD3Keeps
set_option autoImplicit false
namespace Go.Proofs.Ytihpobpkhhkejaa
open Go Go.RowKit

attribute [local go_sem ↓] exec_build_sec1
theorem keep_bools (w w' : World) (B : Nat) (L : List Nat) (a : Option Addr) (l c : Nat) (kb : Nat → Bool) (hl : l ≤ 2 ^ 63 - 1) (h : SlRd w a l 1 (fun i _ => .bool (kb i))) (x : From w.heap.size w w') (hB : w.heap.size ≤ B) :
    BoolsAt w' (Mine B L) (.slice a l c) ((List.range l).map kb) := by
  refine ⟨a, c, by simp, by simp; omega, fun hpos => ?_⟩
  obtain ⟨b, o, rfl, hbl, hc⟩ := h (by simpa using hpos)
  refine ⟨b, o, rfl, fun hm => by have := hm.1; omega, fun i k hi => ?_⟩
  rw [List.getElem?_map] at hi
  by_cases hil : i < l
  · rw [List.getElem?_range hil] at hi
    obtain rfl := Option.some.inj hi
    have := hc i 0 hil (by omega)
    simp only [Nat.mul_one, Nat.add_zero] at this
    exact x.at hbl this
  · rw [List.getElem?_eq_none (by simpa using hil)] at hi
    cases hi
theorem keep_yes {l j : Nat} {kb : Nat → Bool} (h : j < l) (hk : kb j = true) : ((List.range l).map kb)[j]? = some true := by
  rw [List.getElem?_map, List.getElem?_range h, Option.map_some, hk]
theorem keep_no1 {l j : Nat} {kb : Nat → Bool} (h : ¬ j < l) : ((List.range l).map kb)[j]? ≠ some true := by
  rw [List.getElem?_eq_none (by simpa using h)]; simp
theorem keep_no2 {l j : Nat} {kb : Nat → Bool} (h : j < l) (hk : kb j = false) : ((List.range l).map kb)[j]? ≠ some true := by
  rw [List.getElem?_map, List.getElem?_range h, Option.map_some, hk]; simp
set_option maxRecDepth 100000 in
set_option maxHeartbeats 1000000 in
theorem keeps_walk (a0 a1 a2 : Option Addr) (l0 l1 l2 c0 c1 c2 : Nat) (b0 b1 : Nat → Int) (kb : Nat → Bool) (w : World) (h0 : l0 ≤ 1048576) (h1 : l1 ≤ 1048576) (h2 : l2 ≤ maxLen)
    (r0 : SlRd w a0 l0 1 (fun i _ => .int .u8 (b0 i))) (r1 : SlRd w a1 l1 1 (fun i _ => .int .u8 (b1 i))) (r2 : SlRd w a2 l2 1 (fun i _ => .bool (kb i)))
    (q1 : ∀ i, i < l1 → 0 ≤ b1 i ∧ b1 i ≤ 255) :
    Calls Try.prog 3 #[.slice a0 l0 c0, .slice a1 l1 c1, .slice a2 l2 c2] w fun e w' => e = .returned (.bool true) ∧ Below w.heap.size w w' := by
  unfold maxLen at h2
  have R0 := Lib.hid r0; have R1 := Lib.hid r1; have R2 := Lib.hid r2; have QB := Lib.hid q1
  clear r0 r1 r2 q1
  go_enter Try.func3, Try.ntmps3
  go_wp2_with (go_at_call 14; refine (awake3 _).mono ?_; rintro e w1 ⟨rfl, x1⟩)
  have X1 := Lib.hid (show From w.heap.size w w1 from Chg.mono x1 (fun _ h => h.elim))
  have z1 := x1.size
  clear x1
  refine (dk_new 4 w1).mono ?_
  rintro e w2 ⟨r, rfl, d2, x2⟩
  have z2 := x2.size
  have X2 := Lib.hid (show From w.heap.size w w2 from Chg.trans X1.out x2 (fun x h => .inl (Nat.le_trans z1 h.1)))
  have D2 := Lib.hid d2
  clear x2 d2
  go_wp2
  have D3 := D2.out.var (.cells #[.int .u8 0, .int .u8 0, .int .u8 0, .int .u8 0] 27)
  have W3 : Want (w2.alloc (.cells #[.int .u8 0, .int .u8 0, .int .u8 0, .int .u8 0] 27)) w2.heap.size (fun _ => 0) := ⟨_, hal_new, rfl, fun i hi => by
    match i, hi with
    | 0, _ => rfl
    | 1, _ => rfl
    | 2, _ => rfl
    | 3, _ => rfl⟩
  have X3 := X2.out.alloc (.cells #[.int .u8 0, .int .u8 0, .int .u8 0, .int .u8 0] 27)
  generalize (w2.alloc (.cells #[.int .u8 0, .int .u8 0, .int .u8 0, .int .u8 0] 27)) = w3 at *
  have hg : w.heap.size ≤ w2.heap.size := by omega
  go_loopw [9] (fun i wr => ∃ (k : Nat) (D : Dsk) (f : Nat → Int), k ≤ l0 ∧ i = .int .i64 k ∧ Keep1 k D f ∧ Dk w1.heap.size [w2.heap.size] wr r D ∧ Want wr w2.heap.size f ∧ From w.heap.size w wr) (fun i _ => l0 - (intOf i).toNat)
  case atStart => exact ⟨0, _, _, Nat.zero_le _, rfl, Keep1.start, D3, W3, X3⟩
  case round =>
    clear D3 W3 X3
    obtain ⟨k, D, f, hk, rfl, hi, hd, hw, hx⟩ := hrel
    have HI := Lib.hid hi; have HD := Lib.hid hd; have HW := Lib.hid hw; have HX := Lib.hid hx
    clear hi hd hw hx
    by_cases hlt : k < l0
    · obtain ⟨b, o, rfl, hbl, hc⟩ := R0.out (by omega)
      have hc0' := hc k 0 hlt (by omega)
      simp only [Nat.mul_one, Nat.add_zero] at hc0'
      have hc0 := HX.out.at hbl hc0'
      have HC := Lib.hid hc0'
      clear hc hc0'
      generalize b0 k = P at *
      obtain ⟨m, hm, hm4⟩ : ∃ m : Nat, (k : Int) % 4 = m ∧ m < 4 := ⟨k % 4, by omega, by omega⟩
      go_wp2_with fail
      refine (dk_write_calm HD.out HI.out.calm m (secB P) (by omega) (by rw [HI.out.size]; omega) (secB_len P) (by rw [HI.out.wait]; omega)).mono ?_
      rintro e w4 ⟨rfl, d4, x4⟩
      have I4 := Lib.hid (HI.out.put m P)
      have W4 := Lib.hid (HW.out.own x4 (by simp))
      have D4 := Lib.hid d4; have X4 := Lib.hid (HX.out.own (Own.drop (B := w.heap.size) (show Own w.heap.size [w2.heap.size] wr w4 from Chg.mono x4 (fun x h => .inl ⟨by have := h.1; omega, h.2⟩)) (L' := [w2.heap.size]) (by simp)))
      have hc1 := X4.out.at hbl HC.out
      have hw1 := W4.out.cell hm4
      have hf1 := W4.out.free m
      clear d4 x4 hc0
      go_wp2
      go_roundw
      case rel => exact ⟨k + 1, _, _, by omega, by go_num, I4.out, D4.out.cell (by simp) _, W4.out.set m P hm4, X4.out.cell hg _⟩
      case measure => simp [intOf]; omega
    · have hk0 : k = l0 := by omega
      clear hlt
      go_wp2_with fail
      refine (dk_sync_calm HD.out HI.out.calm (by rw [HI.out.wait]; omega)).mono ?_
      rintro e w5 ⟨rfl, d5, x5⟩
      have I5 := Lib.hid (HI.out.flat ((List.range l2).map kb))
      have W5 := Lib.hid (HW.out.own x5 (by simp))
      have D5 := Lib.hid d5; have X5 := Lib.hid (show From w.heap.size w w5 from Chg.trans HX.out x5 (fun x h => .inl (by have := h.1; omega)))
      clear d5 x5
      go_wp2
      go_loopw [10] (fun i wr => ∃ (k : Nat) (D : Dsk) (f : Nat → Int), k ≤ l1 ∧ i = .int .i64 k ∧ Keep2 ((List.range l2).map kb) k D f ∧ Dk w1.heap.size [w2.heap.size] wr r D ∧ Want wr w2.heap.size f ∧ From w.heap.size w wr) (fun i _ => l1 - (intOf i).toNat)
      case atStart => exact ⟨0, _, _, Nat.zero_le _, rfl, I5.out, D5.out, W5.out, X5.out⟩
      case round =>
        clear D5 W5 X5 I5 HI HD HW HX
        rename_i wr0
        clear hk0
        obtain ⟨j, E, f', hj, rfl, hi, hd, hw, hx⟩ := hrel
        have HI := Lib.hid hi; have HD := Lib.hid hd; have HW := Lib.hid hw; have HX := Lib.hid hx
        clear hi hd hw hx
        by_cases hlt : j < l1
        · obtain ⟨b, o, rfl, hbl, hc⟩ := R1.out (by omega)
          have hc0' := hc j 0 hlt (by omega)
          simp only [Nat.mul_one, Nat.add_zero] at hc0'
          have hc0 := HX.out.at hbl hc0'
          have HC := Lib.hid hc0'
          obtain ⟨hq0, hq1⟩ := QB.out j hlt
          clear hc hc0'
          generalize b1 j = P at *
          obtain ⟨m, hm, hm4⟩ : ∃ m : Nat, P % 4 = m ∧ m < 4 := ⟨(P % 4).toNat, by omega, by omega⟩
          go_wp2_with fail
          refine (dk_write_calm HD.out HI.out.calm m (secB P) (by omega) (by rw [HI.out.size]; omega) (secB_len P) (by rw [HI.out.wait]; omega)).mono ?_
          rintro e w4 ⟨rfl, d4, x4⟩
          have W4 := Lib.hid (HW.out.own x4 (by simp))
          have D4 := Lib.hid d4; have X4 := Lib.hid (show From w.heap.size w w4 from Chg.trans HX.out x4 (fun x h => .inl (by have := h.1; omega)))
          have hc1 := X4.out.at hbl HC.out
          have hw1 := W4.out.cell hm4
          have hf1 := W4.out.free m
          clear d4 x4 hc0
          by_cases h3 : j < l2
          · obtain ⟨b2, o2, rfl, hbl2, hc2⟩ := R2.out (by omega)
            have hc2' := X4.out.at hbl2 (hc2 j 0 h3 (by omega))
            simp only [Nat.mul_one, Nat.add_zero] at hc2'
            clear hc2
            cases hkb : kb j with
            | true =>
              rw [hkb] at hc2'
              have I4 := Lib.hid (HI.out.yes (keep_yes h3 hkb) m P)
              clear hkb
              go_wp2
              go_roundw
              case rel => exact ⟨j + 1, _, _, by omega, by go_num, I4.out, D4.out.cell (by simp) _, W4.out.set m P hm4, X4.out.cell hg _⟩
              case measure => simp [intOf]; omega
            | false =>
              rw [hkb] at hc2'
              have I4 := Lib.hid (HI.out.no (keep_no2 h3 hkb) m P)
              clear hkb
              go_wp2
              go_roundw
              case rel => exact ⟨j + 1, _, _, by omega, by go_num, I4.out, D4.out, W4.out, X4.out⟩
              case measure => simp [intOf]; omega
          · have I4 := Lib.hid (HI.out.no (keep_no1 h3) m P)
            go_wp2
            go_roundw
            case rel => exact ⟨j + 1, _, _, by omega, by go_num, I4.out, D4.out, W4.out, X4.out⟩
            case measure => simp [intOf]; omega
        · have hj1 : j = l1 := by omega
          have hw2 : (E.wait.length : Int) = l1 := by rw [HI.out.wait]; omega
          have I6 := Lib.hid HI.out.restart
          have V6 := Lib.hid (keep_bools w wr w1.heap.size [w2.heap.size] a2 l2 c2 kb h2 R2.out HX.out z1)
          clear hj1
          go_wp2_with fail
          refine (dk_waiting HD.out).mono ?_
          rintro e w6 ⟨rfl, rfl⟩
          rw [hw2]
          go_wp2_with fail
          refine (dk_restart HD.out _ _ V6.out (by rw [HI.out.wait]; omega)).mono ?_
          rintro e w6 ⟨rfl, d6, x6⟩
          have W6 := Lib.hid (HW.out.own x6 (by simp))
          have D6 := Lib.hid d6; have X6 := Lib.hid (show From w.heap.size w w6 from Chg.trans HX.out x6 (fun x h => .inl (by have := h.1; omega)))
          clear d6 x6
          go_wp2
          have HZ := Lib.hid info_sec0
          go_loopw [12] (fun i wr => ∃ (t : Nat) (E' : Dsk), t ≤ 2 ∧ i = .int .i64 t ∧ Keep3 E' f' ∧ Dk w1.heap.size [w2.heap.size] wr r E' ∧ Want wr w2.heap.size f' ∧ From w.heap.size w wr) (fun i _ => 2 - (intOf i).toNat)
          case atStart => exact ⟨0, _, Nat.zero_le _, rfl, I6.out, D6.out, W6.out, X6.out⟩
          case round =>
            clear D6 W6 X6 I6 HI HD HW HX V6 hw2 hlt
            obtain ⟨t, E', ht, rfl, hi, hd, hw, hx⟩ := hrel
            have HI := Lib.hid hi; have HD := Lib.hid hd; have HW := Lib.hid hw; have HX := Lib.hid hx
            clear hi hd hw hx
            by_cases hlt : t < 2
            · go_wp2
              have HT := Lib.hid hlt
              have hq : decide ((t : Int) < 2) = true := decide_eq_true (by omega)
              rw [hq]
              clear hlt hq
              go_loopw [13] (fun i wr => ∃ (n : Nat), n ≤ 4 ∧ i = .int .i64 n ∧ Dk w1.heap.size [w2.heap.size] wr r E' ∧ Want wr w2.heap.size f' ∧ From w.heap.size w wr) (fun i _ => 4 - (intOf i).toNat)
              case atStart => exact ⟨0, Nat.zero_le _, rfl, HD.out, HW.out, HX.out⟩
              case round =>
                clear HD HW HX
                obtain ⟨n, hn, rfl, hd, hw, hx⟩ := hrel
                have HD := Lib.hid hd; have HW := Lib.hid hw; have HX := Lib.hid hx
                clear hd hw hx
                by_cases hlt2 : n < 4
                · have hv : E'.now n = secB (f' n) := HI.out.vals n hlt2
                  have HV := Lib.hid hv
                  clear hv
                  go_wp2_with fail
                  refine (dk_read_in HD.out HI.out.calm.2 n (by omega) (by rw [HI.out.size]; omega)).mono ?_
                  rintro e w7 ⟨rfl, d7, x7⟩
                  rw [HV.out, secC_secB]
                  have W7 := Lib.hid (HW.out.own x7 (by simp))
                  have X7 := Lib.hid (show From w.heap.size w w7 from Chg.trans HX.out x7 (fun x h => .inl (by have := h.1; omega)))
                  have D7 := Lib.hid d7
                  clear d7 x7
                  have hcell := W7.out.cell hlt2
                  generalize f' n = P at *
                  have qe := sec_equal_self (secB P) (secB_len P)
                  rw [secC_secB] at qe
                  have qg := sec_guard
                  go_wp2_with (first | (refine wpList_alloc_big rfl 31 64 rfl HZ.out (fun zs hzs => ?_); have HZS := Lib.hid hzs; clear hzs) | (refine wpList_store_new rfl 31 _ _ rfl (Value.int .u8 P :: secC z63) _ rfl rfl rfl ((secB_cells P).trans HZS.out.symm) (info_secB P) (one_secB P) ?_))
                  have o8 : (w7.alloc (.cells (Value.int .u8 P :: secC z63).toArray 31)).rangeAt w7.heap.size 0 (Value.int .u8 P :: secC z63) := range_block hal_new
                  have D8 := Lib.hid ((D7.out.var (.cells (Value.int .u8 P :: secC z63).toArray 31)).drop (L' := [w2.heap.size]) (by simp))
                  have W8 := Lib.hid (W7.out.alloc (.cells (Value.int .u8 P :: secC z63).toArray 31))
                  have X8 := Lib.hid (X7.out.alloc (.cells (Value.int .u8 P :: secC z63).toArray 31))
                  have hcell8 : (w7.alloc (.cells (Value.int .u8 P :: secC z63).toArray 31)).cell? ⟨w2.heap.size, n, none⟩ = some (.int .u8 P) := (cell_of_heap (hal_old W7.out.lt)).trans hcell
                  clear hcell
                  generalize (w7.alloc (.cells (Value.int .u8 P :: secC z63).toArray 31)) = w8 at *
                  refine wp_region_lex (fun w' => w'.rangeAt w7.heap.size 0 (Value.int .u8 P :: secC z63) ∧ w'.cell? ⟨w2.heap.size, n, none⟩ = some (.int .u8 P)) 99 [12] [0, 1, 2, 3, 4, 5, 6, 7, 8, 9, 10, 11, 12, 13, 14] (by kernel_rfl) (by kernel_rfl) ⟨o8, hcell8⟩ ?_
                  have O8 := Lib.hid o8; have C8 := Lib.hid hcell8
                  clear o8 hcell8
                  refine' lex_free (v := _) rfl rfl rfl ?_ (fun _ _ _ h => h) ?_
                  rotate_left
                  · rintro W ⟨hW1, hW2⟩
                    go_simp
                    with_reducible rfl
                  try simp only [Act.put, List.setIfInBounds_toArray, List.set_cons_zero, List.set_cons_succ]
                  refine' lex_free (v := _) rfl rfl rfl ?_ (fun _ _ _ h => h) ?_
                  rotate_left
                  · rintro W ⟨hW1, hW2⟩
                    go_simp
                    with_reducible rfl
                  try simp only [Act.put, List.setIfInBounds_toArray, List.set_cons_zero, List.set_cons_succ]
                  refine' lex_free (v := _) rfl rfl rfl ?_ (fun _ _ _ h => h) ?_
                  rotate_left
                  · rintro W ⟨hW1, hW2⟩
                    go_simp
                    with_reducible rfl
                  try simp only [Act.put, List.setIfInBounds_toArray, List.set_cons_zero, List.set_cons_succ]
                  refine' lex_freeG (v := _) rfl rfl rfl ?_ (fun _ _ _ h => h) ?_
                  rotate_left
                  · rintro W ⟨hW1, hW2⟩
                    refine exec_load_mid (ty := 31) (x := .tmp 14) ?_ ?_ hW1 Try.underlying31 rfl (info_secB P) <;> rfl
                  try simp only [Act.put, List.setIfInBounds_toArray, List.set_cons_zero, List.set_cons_succ]
                  refine' lex_freeG (v := _) rfl rfl rfl ?_ (fun _ _ _ h => h) ?_
                  rotate_left
                  · rintro W ⟨hW1, hW2⟩
                    go_simp
                    with_reducible rfl
                  try simp only [Act.put, List.setIfInBounds_toArray, List.set_cons_zero, List.set_cons_succ]
                  refine' lex_freeG (v := _) rfl rfl rfl ?_ (fun _ _ _ h => h) ?_
                  rotate_left
                  · rintro W ⟨hW1, hW2⟩
                    go_simp
                    with_reducible rfl
                  try simp only [Act.put, List.setIfInBounds_toArray, List.set_cons_zero, List.set_cons_succ]
                  refine' lex_freeG (v := _) rfl rfl rfl ?_ (fun _ _ _ h => h) ?_
                  rotate_left
                  · rintro W ⟨hW1, hW2⟩
                    go_simp
                    with_reducible rfl
                  try simp only [Act.put, List.setIfInBounds_toArray, List.set_cons_zero, List.set_cons_succ]
                  refine' lex_freeG (v := _) rfl rfl rfl ?_ (fun _ _ _ h => h) ?_
                  rotate_left
                  · rintro W ⟨hW1, hW2⟩
                    go_simp
                    with_reducible rfl
                  try simp only [Act.put, List.setIfInBounds_toArray, List.set_cons_zero, List.set_cons_succ]
                  refine' lex_freeG (v := _) rfl rfl rfl ?_ (fun _ _ _ h => h) ?_
                  rotate_left
                  · rintro W ⟨hW1, hW2⟩
                    go_simp
                    with_reducible rfl
                  try simp only [Act.put, List.setIfInBounds_toArray, List.set_cons_zero, List.set_cons_succ]
                  refine' lex_free (v := _) rfl rfl rfl ?_ (fun _ _ _ h => h) ?_
                  rotate_left
                  · rintro W ⟨hW1, hW2⟩
                    go_simp
                    with_reducible rfl
                  try simp only [Act.put, List.setIfInBounds_toArray, List.set_cons_zero, List.set_cons_succ]
                  refine' lex_free (v := _) rfl rfl rfl ?_ (fun _ _ _ h => h) ?_
                  rotate_left
                  · rintro W ⟨hW1, hW2⟩
                    go_simp
                    with_reducible rfl
                  try simp only [Act.put, List.setIfInBounds_toArray, List.set_cons_zero, List.set_cons_succ]
                  refine' lex_freeG (v := _) rfl rfl rfl ?_ (fun _ _ _ h => h) ?_
                  rotate_left
                  · rintro W ⟨hW1, hW2⟩
                    go_simp
                    with_reducible rfl
                  try simp only [Act.put, List.setIfInBounds_toArray, List.set_cons_zero, List.set_cons_succ]
                  refine lex_opG rfl rfl rfl (fun K hK => ?_)
                  go_simp
                  refine (dk_waiting (D8.out.quiet (Chg.refl _ _).drew).1).mono ?_
                  rintro e w9 ⟨rfl, rfl⟩
                  refine hK _ _ (fun _ => ⟨O8.out, C8.out⟩) ?_
                  clear hK K
                  try simp only [Act.put, List.setIfInBounds_toArray, List.set_cons_zero, List.set_cons_succ]
                  rw [HI.out.wait]
                  refine' lex_freeG (v := _) rfl rfl rfl ?_ (fun _ _ _ h => h) ?_
                  rotate_left
                  · rintro W ⟨hW1, hW2⟩
                    go_simp
                    with_reducible rfl
                  try simp only [Act.put, List.setIfInBounds_toArray, List.set_cons_zero, List.set_cons_succ]
                  refine' lex_free (v := _) rfl rfl rfl ?_ (fun _ _ _ h => h) ?_
                  rotate_left
                  · rintro W ⟨hW1, hW2⟩
                    go_simp
                    with_reducible rfl
                  try simp only [Act.put, List.setIfInBounds_toArray, List.set_cons_zero, List.set_cons_succ]
                  refine lex_nil ?_
                  go_wp2
                  go_roundw
                  case rel => exact ⟨n + 1, by omega, by go_num, (D8.out.quiet (Chg.refl _ _).drew).1, W8.out.drew, X8.out.drew⟩
                  case measure => simp [intOf]; omega
                · have V7 := Lib.hid (bools_lit w1.heap.size [w2.heap.size] wr [true, true] (by decide))
                  go_wp2_with fail
                  refine (dk_restart (HD.out.var _) _ [true, true] V7.out (by rw [HI.out.wait]; decide)).mono ?_
                  rintro e w7 ⟨rfl, d7, x7⟩
                  have D7 := Lib.hid (d7.drop (L' := [w2.heap.size]) (by simp)); have W7 := Lib.hid ((HW.out.alloc _).own x7 (by simp))
                  have X7 := Lib.hid (show From w.heap.size w w7 from Chg.trans (HX.out.alloc _) x7 (fun x h => .inl (by have := h.1; omega)))
                  have I7 := Lib.hid (HI.out.restart [true, true])
                  clear d7 x7
                  go_wp2
                  go_roundw
                  case rel => exact ⟨t + 1, _, by have := HT.out; omega, by go_num, I7.out, D7.out, W7.out, X7.out⟩
                  case measure => simp [intOf]; omega
            · go_wp2
              go_ret
              exact ⟨rfl, HX.out.below (fun _ h => h) (Nat.le_refl _)⟩
end Go.Proofs.Ytihpobpkhhkejaa
