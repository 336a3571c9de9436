/-
  The walk of MvccIds: it returns true, for every two bytes. Condition: they are bytes.
-/
import Derived.Test.YtfegpmbgcocldaaMIds
set_option autoImplicit false
namespace Go.Proofs.Ytfegpmbgcocldaa
open Go Go.RowKit

set_option maxRecDepth 100000 in
set_option maxHeartbeats 4000000 in
theorem ids_walk (M A : Int) (w : World) (hM : 0 ≤ M ∧ M ≤ 255) (hA : 0 ≤ A ∧ A ≤ 255) :
    Calls Try.prog 5 #[.int .u8 M, .int .u8 A] w fun e w' => e = .returned (.bool true) ∧ Below w.heap.size w w' := by
  obtain ⟨n, hn, hn40⟩ : ∃ n : Nat, M % 40 = n ∧ n < 40 := ⟨(M % 40).toNat, by omega, by omega⟩
  go_enter Try.func5, Try.ntmps5
  go_wp2_with (go_at_call 13; refine (awake19 _).mono ?_; rintro e w1 ⟨rfl, x1⟩)
  have X1 := Lib.hid x1
  clear x1
  go_wp2_with fail
  refine (new_ok 1 n none 0 0 noV w1 (by omega) (rd_none _ _ _) (newOk_none n (by omega) (by omega))).mono ?_
  rintro e w2 ⟨r, rfl, b2, x2⟩
  rw [start_none] at b2
  have z1 := X1.out.size
  have hF : ∀ k, Ext (fun _ => False) w1 w2 k → w.heap.size ≤ k := fun k hk => by
    rcases hk with hk | hk
    · exact hk.elim
    · omega
  have HF := Lib.hid hF; have B2 := Lib.hid b2
  have FX2 := Lib.hid (show From0 w w2 from (X1.out.trans x2 (fun _ h => h.elim)).mono (fun _ h => h.elim))
  have HN := Lib.hid hn
  clear b2 x2 hF
  go_wp2
  go_loopw [6, 8] (fun s6 s8 wr => ∃ (i r : Nat) (F : Nat → Prop) (B : Bk), 1 ≤ i ∧ i ≤ n + 1 ∧ s6 = .pointer (some ⟨r, 0, none⟩) ∧ s8 = .int .i64 i ∧ BookAt wr r F B ∧ (∀ k, F k → w.heap.size ≤ k) ∧ IdsI B i n ∧ From0 w wr) (fun _ s8 _ => n + 1 - (intOf s8).toNat)
  case atStart => exact ⟨1, r, _, _, Nat.le_refl _, by omega, rfl, rfl, B2.out, HF.out, ids_start n, FX2.out⟩
  case round =>
    clear B2 HF FX2
    obtain ⟨i, r, F, B, hi1, hin, rfl, rfl, hb, hf, hid, hx⟩ := hrel
    have BK := Lib.hid hb; have HF := Lib.hid hf; have HI := Lib.hid hid; have HX := Lib.hid hx
    have hnx := hid.next
    have hmo := hid.most
    have hst := hid.step
    have NX := Lib.hid hnx; have MO := Lib.hid hmo
    clear hb hf hid hx hnx hmo
    by_cases hlt : i ≤ n
    · go_wp2_with fail
      refine (begin_ok r F B wr BK.out (by have := NX.out; have := MO.out; omega) (by omega)).mono ?_
      rintro e w3 ⟨rfl, b3, x3⟩
      rw [NX.out]
      have HB3 := Lib.hid b3; have X3 := Lib.hid (show From0 w w3 from Chg.trans HX.out x3 (fun k hk => .inl (HF.out k hk)))
      clear b3 x3
      have hs3 : B.begin.step ≤ 1000 := by show B.step + 1 ≤ 1000; omega
      by_cases h3 : (i : Int) % 3 = 0
      · have q3 : ((i : Int) % 3 == 0) = true := by simpa using h3
        have ha : B.begin.all i = some (1, B.step + 1, 0) := by have := begin_new B; rw [NX.out] at this; exact this
        have E1 := Lib.hid (endR_eq ha); have E2 := Lib.hid (endB_eq (s := 2) ha)
        have I4 := Lib.hid (ids_yes HI.out (by omega) h3)
        clear ha h3
        go_wp2_with fail
        refine (commit_any r F B.begin w3 i HB3.out (by omega)).mono ?_
        rintro e w4 ⟨rfl, b4, x4⟩
        rw [E1.out]
        rw [E2.out] at b4
        have HB4 := Lib.hid b4; have X4 := Lib.hid (show From0 w w4 from Chg.trans X3.out x4 (fun k hk => .inl (HF.out k hk)))
        clear b4 x4 E2
        generalize B.begin.fin i 2 = B4 at *
        have nx4 := I4.out.next
        have NX4 := Lib.hid nx4
        have ok4 := Lib.hid HB4.out.ok
        clear nx4
        by_cases hag : (i : Int) = A % 41
        · have qa : ((i : Int) == A % 41) = true := by simpa using hag
          have HD := Lib.hid (fun u (hu : u ∈ B4.list 2) => get_dom ok4.out (t := u) (by rw [(mem_list ok4.out (by decide)).1 hu]; decide))
          clear hag
          go_wp2_with fail
          refine (next_any r F B4 _ HB4.out).mono ?_
          rintro e w5 ⟨rfl, rfl⟩
          rw [NX4.out]
          go_wp2_with fail
          refine (committed_any r F B4 _ HB4.out).mono ?_
          rintro e w5 ⟨v7, rfl, hv7, x5⟩
          obtain ⟨a7, cap7, rfl, _⟩ := hv7.form
          have V7 := Lib.hid hv7; have HB5 := Lib.hid (HB4.out.quiet x5); have X5 := Lib.hid (show From0 w w5 from Chg.trans X4.out x5 (fun _ h => h.elim))
          have hdl := V7.out.len_le
          have DN := Lib.hid (ids_new I4.out ok4.out (by omega))
          clear hv7 x5
          go_wp2_with fail
          refine (new_ok ((i : Int) + 1) n a7 (B4.list 2).length cap7 (dV (B4.list 2)) w5 hdl V7.out.rd (newOk_done (by omega) (by omega) (by omega) (by omega) (fun u hu => by have := HD.out u hu; rw [NX4.out] at this; exact this))).mono ?_
          rintro e w6 ⟨c, rfl, b6, x6⟩
          have z6 := x6.size
          have z5 : w.heap.size ≤ w5.heap.size := X5.out.size
          obtain ⟨F2, hF2e⟩ : ∃ F2, F2 = Ext (fun _ => False) w5 w6 := ⟨_, rfl⟩
          have hF2 : ∀ k, F2 k → w.heap.size ≤ k := fun k hk => by
            rw [hF2e] at hk
            rcases hk with hk | hk
            · exact hk.elim
            · omega
          rw [← hF2e] at b6
          have HF2 := Lib.hid hF2; have C6 := Lib.hid b6; have HB6 := Lib.hid (HB5.out.quiet x6); have X6 := Lib.hid (show From0 w w6 from Chg.trans X5.out x6 (fun _ h => h.elim))
          clear hF2e hF2 b6 x6
          obtain ⟨dn1, dn2, dn3⟩ := DN.out
          have DN1 := Lib.hid dn1; have DN2 := Lib.hid dn2; have DN3 := Lib.hid dn3
          clear dn1 dn2 dn3 DN
          generalize Bk.start ((i : Int) + 1) n (dV (B4.list 2)) (B4.list 2).length = C at *
          go_wp2_with fail
          refine (committed_any c F2 C _ C6.out).mono ?_
          rintro e w7 ⟨v8, rfl, hv8, x7⟩
          rw [DN2.out] at hv8
          have V8 := Lib.hid hv8; have Y7 := Lib.hid x7
          clear hv8 x7
          go_wp2_with fail
          refine (committed_any r F B4 _ (HB6.out.quiet Y7.out)).mono ?_
          rintro e w8 ⟨v9, rfl, hv9, x8⟩
          have V9 := Lib.hid hv9; have V8b := Lib.hid (V8.out.quiet x8); have Y8 := Lib.hid (Y7.out.trans x8 (fun _ h => h.elim))
          clear hv9 x8
          go_wp2_with fail
          refine (same_eq v8 v9 (B4.list 2) _ _ _ V8b.out V9.out).mono ?_
          rintro e w9 ⟨rfl, x9⟩
          have Y9 := Lib.hid (Y8.out.trans x9 (fun _ h => h.elim))
          clear x9
          go_wp2_with fail
          refine (active_any c F2 C _ (C6.out.quiet Y9.out)).mono ?_
          rintro e wa ⟨va, rfl, hva, xa⟩
          obtain ⟨aa, capa, rfl, _⟩ := hva.form
          rw [DN3.out]
          have YA := Lib.hid (Y9.out.trans xa (fun _ h => h.elim))
          have CA := Lib.hid (C6.out.quiet YA.out)
          clear hva xa
          go_wp2
          go_roundw
          case rel => exact ⟨i + 1, c, F2, C, by omega, by omega, rfl, by go_num, CA.out, HF2.out, by have := DN1.out; simpa using this, Chg.trans X6.out YA.out (fun _ h => h.elim)⟩
          case measure => simp [intOf]; omega
        · have qa : ((i : Int) == A % 41) = false := by simpa using hag
          clear hag
          go_wp2
          go_roundw
          case rel => exact ⟨i + 1, r, F, B4, by omega, by omega, rfl, by go_num, HB4.out, HF.out, by have := I4.out; simpa using this, X4.out⟩
          case measure => simp [intOf]; omega
      · have q3 : ((i : Int) % 3 == 0) = false := by simpa using h3
        have I4 := Lib.hid (ids_no HI.out (by omega) h3)
        have HB4 := HB3; have X4 := X3
        clear h3 HB3 X3
        generalize B.begin = B4 at *
        generalize w3 = w4 at *
        have nx4 := I4.out.next
        have NX4 := Lib.hid nx4
        have ok4 := Lib.hid HB4.out.ok
        clear nx4
        by_cases hag : (i : Int) = A % 41
        · have qa : ((i : Int) == A % 41) = true := by simpa using hag
          have HD := Lib.hid (fun u (hu : u ∈ B4.list 2) => get_dom ok4.out (t := u) (by rw [(mem_list ok4.out (by decide)).1 hu]; decide))
          clear hag
          go_wp2_with fail
          refine (next_any r F B4 _ HB4.out).mono ?_
          rintro e w5 ⟨rfl, rfl⟩
          rw [NX4.out]
          go_wp2_with fail
          refine (committed_any r F B4 _ HB4.out).mono ?_
          rintro e w5 ⟨v7, rfl, hv7, x5⟩
          obtain ⟨a7, cap7, rfl, _⟩ := hv7.form
          have V7 := Lib.hid hv7; have HB5 := Lib.hid (HB4.out.quiet x5); have X5 := Lib.hid (show From0 w w5 from Chg.trans X4.out x5 (fun _ h => h.elim))
          have hdl := V7.out.len_le
          have DN := Lib.hid (ids_new I4.out ok4.out (by omega))
          clear hv7 x5
          go_wp2_with fail
          refine (new_ok ((i : Int) + 1) n a7 (B4.list 2).length cap7 (dV (B4.list 2)) w5 hdl V7.out.rd (newOk_done (by omega) (by omega) (by omega) (by omega) (fun u hu => by have := HD.out u hu; rw [NX4.out] at this; exact this))).mono ?_
          rintro e w6 ⟨c, rfl, b6, x6⟩
          have z6 := x6.size
          have z5 : w.heap.size ≤ w5.heap.size := X5.out.size
          obtain ⟨F2, hF2e⟩ : ∃ F2, F2 = Ext (fun _ => False) w5 w6 := ⟨_, rfl⟩
          have hF2 : ∀ k, F2 k → w.heap.size ≤ k := fun k hk => by
            rw [hF2e] at hk
            rcases hk with hk | hk
            · exact hk.elim
            · omega
          rw [← hF2e] at b6
          have HF2 := Lib.hid hF2; have C6 := Lib.hid b6; have HB6 := Lib.hid (HB5.out.quiet x6); have X6 := Lib.hid (show From0 w w6 from Chg.trans X5.out x6 (fun _ h => h.elim))
          clear hF2e hF2 b6 x6
          obtain ⟨dn1, dn2, dn3⟩ := DN.out
          have DN1 := Lib.hid dn1; have DN2 := Lib.hid dn2; have DN3 := Lib.hid dn3
          clear dn1 dn2 dn3 DN
          generalize Bk.start ((i : Int) + 1) n (dV (B4.list 2)) (B4.list 2).length = C at *
          go_wp2_with fail
          refine (committed_any c F2 C _ C6.out).mono ?_
          rintro e w7 ⟨v8, rfl, hv8, x7⟩
          rw [DN2.out] at hv8
          have V8 := Lib.hid hv8; have Y7 := Lib.hid x7
          clear hv8 x7
          go_wp2_with fail
          refine (committed_any r F B4 _ (HB6.out.quiet Y7.out)).mono ?_
          rintro e w8 ⟨v9, rfl, hv9, x8⟩
          have V9 := Lib.hid hv9; have V8b := Lib.hid (V8.out.quiet x8); have Y8 := Lib.hid (Y7.out.trans x8 (fun _ h => h.elim))
          clear hv9 x8
          go_wp2_with fail
          refine (same_eq v8 v9 (B4.list 2) _ _ _ V8b.out V9.out).mono ?_
          rintro e w9 ⟨rfl, x9⟩
          have Y9 := Lib.hid (Y8.out.trans x9 (fun _ h => h.elim))
          clear x9
          go_wp2_with fail
          refine (active_any c F2 C _ (C6.out.quiet Y9.out)).mono ?_
          rintro e wa ⟨va, rfl, hva, xa⟩
          obtain ⟨aa, capa, rfl, _⟩ := hva.form
          rw [DN3.out]
          have YA := Lib.hid (Y9.out.trans xa (fun _ h => h.elim))
          have CA := Lib.hid (C6.out.quiet YA.out)
          clear hva xa
          go_wp2
          go_roundw
          case rel => exact ⟨i + 1, c, F2, C, by omega, by omega, rfl, by go_num, CA.out, HF2.out, by have := DN1.out; simpa using this, Chg.trans X6.out YA.out (fun _ h => h.elim)⟩
          case measure => simp [intOf]; omega
        · have qa : ((i : Int) == A % 41) = false := by simpa using hag
          clear hag
          go_wp2
          go_roundw
          case rel => exact ⟨i + 1, r, F, B4, by omega, by omega, rfl, by go_num, HB4.out, HF.out, by have := I4.out; simpa using this, X4.out⟩
          case measure => simp [intOf]; omega
    · have hie : i = n + 1 := by omega
      subst hie
      go_wp2_with fail
      refine (begin_full r F B wr BK.out (by have := NX.out; have := MO.out; omega)).mono ?_
      rintro e w3 ⟨rfl, x3⟩
      have X3 := Lib.hid x3
      clear x3
      go_wp2_with fail
      refine (committed_any r F B w3 (BK.out.quiet X3.out)).mono ?_
      rintro e w4 ⟨v, rfl, hv, x4⟩
      obtain ⟨a9, cap9, rfl, _⟩ := hv.form
      have hln := ids_len (B := B) (n := n) (by have := HI.out; simpa using this) hn40
      have X4 := Lib.hid (show From0 w w4 from Chg.trans HX.out (X3.out.trans x4 (fun _ h => h.elim)) (fun _ h => h.elim))
      have q9 : (((B.list 2).length : Int) == (n : Int) / 3) = true := by simpa using hln
      clear hv x4
      go_wp2
      go_ret
      exact ⟨by simp, Chg.below X4.out (fun _ h => h) (Nat.le_refl _)⟩
end Go.Proofs.Ytfegpmbgcocldaa
