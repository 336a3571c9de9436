/-
  The document's log: Open. Conditions: a disk of bytes stands at the address.
-/
import Derived.Test.YtihpobpkhhkejaaWRefD
import Derived.Test.YtihpobpkhhkejaaWOpenB
set_option autoImplicit false
namespace Go.Proofs.Ytihpobpkhhkejaa
open Go Go.RowKit

def ROpenPost (w : World) (r : Nat) (o : Int × Option (Lg × List (List Int))) (e : Ending) (w' : World) : Prop :=
  match o.2 with
  | none => e = .returned (.tuple #[.pointer none, .slice none 0 0, .int .i64 o.1])
  | some p => ∃ m v F, e = .returned (.tuple #[.pointer (some ⟨m, 0, none⟩), v, .int .i64 o.1]) ∧ RLogAt w' m r F p.1 ∧ (∀ k, F k → w.heap.size ≤ k ∧ k < w'.heap.size) ∧ RecsR w' (fun k => k < w.heap.size ∨ F k) v p.2
theorem bytes_at (D : Dsk) (h : ∀ k, (D.now k).length = 64) : ∀ (k : Nat) (a : Int) (i : Nat), i < k * 64 → (D.bytes a k)[i]? = (D.now (a + (i / 64 : Nat)))[i % 64]?
  | 0, _, _, hi => by omega
  | k + 1, a, i, hi => by
    rw [Dsk.bytes]
    by_cases h64 : i < 64
    · rw [List.getElem?_append_left (by rw [h]; exact h64), Nat.div_eq_of_lt h64, Nat.mod_eq_of_lt h64]
      simp
    · rw [List.getElem?_append_right (by rw [h]; omega), h, bytes_at D h k (a + 1) (i - 64) (by omega)]
      have h1 : (i - 64) % 64 = i % 64 := by omega
      have h2 : a + 1 + ((i - 64) / 64 : Nat) = a + (i / 64 : Nat) := by omega
      rw [h1, h2]
theorem stream_take (D : Dsk) (h : ∀ k, (D.now k).length = 64) (n i : Nat) (hi : i < n) : ∃ y, (D.now (2 + (i / 64 : Nat)))[i % 64]? = some y ∧ (D.stream n).take (i + 1) = (D.stream n).take i ++ [y] := by
  have hl : (D.stream n).length = n := by unfold Dsk.stream upTo; rw [List.length_take, bytes_len D h]; omega
  have hg : (D.stream n)[i]? = (D.now (2 + (i / 64 : Nat)))[i % 64]? := by
    unfold Dsk.stream
    rw [List.getElem?_take_of_lt hi, bytes_at D h _ _ _ (by unfold upTo; omega)]
  rw [← hg, List.getElem?_eq_getElem (by omega)]
  exact ⟨_, rfl, List.take_succ_eq_append_getElem (by omega)⟩
theorem stream_len (D : Dsk) (h : ∀ k, (D.now k).length = 64) (n : Nat) : (D.stream n).length = n := by unfold Dsk.stream upTo; rw [List.length_take, bytes_len D h]; omega
set_option maxRecDepth 100000 in
theorem ropen_nil (w : World) : Calls Try.prog 38 #[.pointer none] w fun e w' => e = .returned (.tuple #[.pointer none, .slice none 0 0, .int .i64 2]) ∧ w = w' := by
  go_enter Try.func38, Try.ntmps38
  go_wp2
  go_ret3
  exact ⟨rfl, rfl⟩
set_option maxRecDepth 100000 in
theorem ropen_small (r : Nat) (A : Nat → Prop) (D : Dsk) (w : World) (hd : RefAt w r A D) (hs : D.size < 3) : Calls Try.prog 38 #[.pointer (some ⟨r, 0, none⟩)] w fun e w' => e = .returned (.tuple #[.pointer none, .slice none 0 0, .int .i64 1]) ∧ w = w' := by
  obtain ⟨d0, d1, d2⟩ := hd.size_
  clear hd
  go_enter Try.func38, Try.ntmps38
  go_wp2
  go_ret3
  exact ⟨rfl, rfl⟩
set_option maxRecDepth 100000 in
theorem ropen_down (r : Nat) (A : Nat → Prop) (D : Dsk) (w : World) (hd : RefAt w r A D) (hs : 3 ≤ D.size) (hdn : D.down = true) :
    Calls Try.prog 38 #[.pointer (some ⟨r, 0, none⟩)] w fun e w' => e = .returned (.tuple #[.pointer none, .slice none 0 0, .int .i64 24]) ∧ Chg (fun _ => False) w w' := by
  obtain ⟨d0, d1, d2⟩ := hd.size_
  have he : errOf D.size D.down 0 = 24 := by rw [hdn]; unfold errOf; rw [if_neg (by omega)]; rfl
  have hr : D.readR 0 = sec0 := by unfold Dsk.readR; rw [he, if_neg (by decide)]
  have HD := Lib.hid hd; have HE := Lib.hid he; have HRR := Lib.hid hr
  clear hd he hdn hr
  go_enter Try.func38, Try.ntmps38
  go_wp2
  go_loopw [7] (fun i wr => i = .int .i64 0 ∧ Chg (fun _ => False) w wr) (fun i _ => 0)
  case atStart => exact ⟨rfl, (Chg.refl _ _).alloc _⟩
  case round =>
    obtain ⟨rfl, hx⟩ := hrel
    have X := Lib.hid hx
    clear hx
    go_wp2_with fail
    refine (rread_any r _ D 0 _ (HD.out.chg X.out (fun _ _ h => h))).mono ?_
    rintro e w2 ⟨rfl, x2⟩
    rw [HE.out, HRR.out]
    have X2 := Lib.hid (X.out.trans x2 (fun _ h => .inl h))
    clear x2
    have HI := Lib.hid (info_secC sec0_len)
    go_wp2_with (first | (refine wpList_alloc_sec rfl rfl ?_) | (refine wpList_store_new rfl 31 _ _ rfl (secC sec0) _ rfl rfl rfl (by simp) HI.out (secC_one _) ?_))
    go_ret3
    exact ⟨rfl, X2.out.alloc _⟩
set_option maxRecDepth 100000 in
set_option maxHeartbeats 2000000 in
theorem ropen_up (r : Nat) (A : Nat → Prop) (D : Dsk) (w : World) (hd : RefAt w r A D) (hs : 3 ≤ D.size) (hdn : D.down = false) (hby : ∀ k, Bytes (D.now k)) :
    Calls Try.prog 38 #[.pointer (some ⟨r, 0, none⟩)] w fun e w' => ROpenPost w r (openR D) e w' ∧ Chg (fun _ => False) w w' := by
  obtain ⟨d0, d1, hs2⟩ := hd.size_
  have h64 : ∀ k, (D.now k).length = 64 := by obtain ⟨_, _, h⟩ := hd; exact h.ok.2.2.2.2.1
  have D0 := Lib.hid d0
  have HD := Lib.hid hd
  have HE := Lib.hid (show ∀ n : Int, 0 ≤ n → n < D.size → errOf D.size D.down n = 0 ∧ D.readR n = D.now n from fun n h0 h1 => by
    have : errOf D.size D.down n = 0 := by rw [hdn]; exact errOf_in h0 h1
    exact ⟨this, by unfold Dsk.readR; rw [if_pos this]⟩)
  have HB := Lib.hid hby; have H64 := Lib.hid h64; have HDN := Lib.hid hdn
  clear hd hby h64 hdn
  go_enter Try.func38, Try.ntmps38
  go_wp2
  clear d0
  go_loopw [6, 7] (fun ln i wr => ∃ k : Nat, k ≤ 2 ∧ i = .int .i64 k ∧ ln = .int .u64 (D.headTo k).2 ∧ wr.heap[w.heap.size]? = some (.cells #[.pointer (some ⟨r, 0, none⟩), .int .u64 (D.headTo k).1, .slice none 0 0, .slice none 0 0, .int .i64 0] 86 (0, 0)) ∧ Chg (fun _ => False) w wr) (fun _ i _ => 2 - (intOf i).toNat)
  case atStart => exact ⟨0, by omega, rfl, rfl, hal_new, (Chg.refl _ _).alloc _⟩
  case round =>
    obtain ⟨k, hk, rfl, rfl, hl, hx⟩ := hrel
    have L1 := Lib.hid hl; have X1 := Lib.hid hx
    clear hl hx
    have hko := headTo_ok D HB.out k
    by_cases hk2 : k < 2
    · obtain ⟨he1, he2⟩ := HE.out k (by omega) (by omega)
      have HE1 := Lib.hid he1; have HE2 := Lib.hid he2
      clear he1 he2
      have hhd := show D.headTo (k + 1) = pick (D.headTo k) (D.now k) from rfl
      have HHD := Lib.hid hhd
      clear hhd
      generalize D.headTo k = H at *
      go_wp2_with fail
      refine (rread_any r _ D k _ (HD.out.chg X1.out (fun _ _ h => h))).mono ?_
      rintro e w2 ⟨rfl, x2⟩
      rw [HE1.out, HE2.out]
      have hl2 := H64.out k
      have hb2 := HB.out k
      generalize D.now k = s at *
      have HI := Lib.hid (info_secC hl2)
      have HLS := Lib.hid (show (secC s).length = (secC sec0).toArray.size by simp [hl2, sec0_len])
      have l2 := x2.heap L1.out (fun h => h)
      have L2 := Lib.hid l2; have X2 := Lib.hid (X1.out.trans x2 (fun _ h => .inl h)); have HL2 := Lib.hid hl2
      clear x2 l2
      go_wp2_with (first | (refine wpList_alloc_sec rfl rfl ?_) | (refine wpList_store_new rfl 31 _ _ rfl (secC s) _ rfl rfl rfl HLS.out HI.out (secC_one _) ?_))
      obtain ⟨W3, hW3⟩ : ∃ W3, W3 = w2.alloc (.cells (secC s).toArray 31) := ⟨_, rfl⟩
      rw [← hW3]
      have g3 : W3.drew.heap[w2.heap.size]? = some (.cells (secC s).toArray 31 (0, 0)) := by rw [hW3]; exact hal_new
      have l3 : W3.drew.heap[w.heap.size]? = some (.cells #[.pointer (some ⟨r, 0, none⟩), .int .u64 H.1, .slice none 0 0, .slice none 0 0, .int .i64 0] 86 (0, 0)) := by rw [hW3]; exact (hal_old (lt_of_heap L2.out)).trans L2.out
      have x3 : Chg (fun _ => False) w W3.drew := by rw [hW3]; exact (X2.out.alloc _).drew
      have X3' := Lib.hid (show Chg (fun _ => False) w W3 from by rw [hW3]; exact X2.out.alloc _)
      have z3 : W3.drew.heap.size = w2.heap.size + 1 := by rw [hW3]; simp
      have n8 : ∀ W : World, W.heap[w2.heap.size]? = some (.cells (secC s).toArray 31 (0, 0)) → Calls Try.prog 57 #[.slice (some ⟨w2.heap.size, 0, none⟩) 8 64] W fun e w' => e = .returned (.int .u64 (cntOf s)) ∧ W = w' := fun W hW => by
        have hl8 : (s.take 8).length = 8 := by rw [List.length_take]; omega
        have := rnumber_any w2.heap.size 0 64 (s.take 8) W (fun b hb => hb2 b (List.mem_of_mem_take hb)) (by omega) (fun j hj => by
          rw [cell_of_row W _ _ _ _ _ hW, List.getElem_take]
          simp [secC])
        rw [hl8] at this
        exact this
      have n4 : ∀ W : World, W.heap[w2.heap.size]? = some (.cells (secC s).toArray 31 (0, 0)) → Calls Try.prog 57 #[.slice (some ⟨w2.heap.size, 8, none⟩) 4 56] W fun e w' => e = .returned (.int .u64 (lenOf s)) ∧ W = w' := fun W hW => by
        have hl4 : ((s.drop 8).take 4).length = 4 := by rw [List.length_take, List.length_drop]; omega
        have := rnumber_any w2.heap.size 8 56 ((s.drop 8).take 4) W (fun b hb => hb2 b (List.mem_of_mem_drop (List.mem_of_mem_take hb))) (by omega) (fun j hj => by
          rw [cell_of_row W _ _ _ _ _ hW, List.getElem_take, List.getElem_drop]
          simp [secC])
        rw [hl4] at this
        exact this
      have G3 := Lib.hid g3; have L3 := Lib.hid l3; have X3 := Lib.hid x3; have HN8 := Lib.hid n8; have HN4 := Lib.hid n4; have Z3 := Lib.hid z3
      clear hW3 g3 l3 x3 n8 n4 z3
      generalize hc : cntOf s = c at *
      generalize hn : lenOf s = ln at *
      try simp only [Act.put, List.setIfInBounds_toArray, List.set_cons_zero, List.set_cons_succ]
      have c1 := cell_of_row W3.drew _ 1 _ _ _ L3.out
      have C1 := Lib.hid c1
      clear c1
      refine wp_region_lex (fun w' => w'.cell? ⟨w.heap.size, 1, none⟩ = some (.int .u64 H.1)) 99 [1] [0, 2, 3, 4, 5, 1, 6] (by kernel_rfl) (by kernel_rfl) C1.out ?_
      iterate 5
        refine' lex_free (v := _) rfl rfl rfl ?_ (fun _ _ _ h => h) ?_
        rotate_left
        · rintro W hW
          go_simp
          with_reducible rfl
        try simp only [Act.put, List.setIfInBounds_toArray, List.set_cons_zero, List.set_cons_succ]
      refine lex_op rfl rfl rfl (fun K hK => ?_)
      go_simp
      refine (HN8.out _ G3.out).mono ?_
      rintro e wn ⟨rfl, rfl⟩
      refine hK _ _ (fun _ => C1.out) ?_
      clear hK K
      try simp only [Act.put, List.setIfInBounds_toArray, List.set_cons_zero, List.set_cons_succ]
      iterate 1
        refine' lex_free (v := _) rfl rfl rfl ?_ (fun _ _ _ h => h) ?_
        rotate_left
        · rintro W hW
          go_simp
          with_reducible rfl
        try simp only [Act.put, List.setIfInBounds_toArray, List.set_cons_zero, List.set_cons_succ]
      refine lex_nil ?_
      by_cases hgt : H.1 < c
      · go_wp2_with fail
        refine (HN8.out _ G3.out).mono ?_
        rintro e wn ⟨rfl, rfl⟩
        have c1 := C1.out
        have f1 := frozen_of_row W3.drew _ 1 _ _ L3.out
        go_wp2_with fail
        obtain ⟨W5, hW5⟩ : ∃ W5, W5 = (W3.setCell ⟨w.heap.size, 1, none⟩ (.int .u64 c)).drew := ⟨_, rfl⟩
        rw [← hW5]
        have g5 : W5.heap[w2.heap.size]? = some (.cells (secC s).toArray 31 (0, 0)) := by rw [hW5]; show (W3.setCell _ _).heap[_]? = _; rw [hset_ne (by have := lt_of_heap L2.out; omega)]; exact G3.out
        have l5 : W5.heap[w.heap.size]? = some (.cells #[.pointer (some ⟨r, 0, none⟩), .int .u64 c, .slice none 0 0, .slice none 0 0, .int .i64 0] 86 (0, 0)) := by rw [hW5]; show (W3.setCell _ _).heap[_]? = _; rw [hset_eq (show W3.heap[w.heap.size]? = _ from L3.out)]; rfl
        have x5 : Chg (fun _ => False) w W5 := by
          have hx3 := X3'.out
          rw [hW5]
          exact (hx3.trans ((Chg.refl (fun k => k = w.heap.size) W3).setCell (p := ⟨w.heap.size, 1, none⟩) (.inl rfl) (.int .u64 c)) (fun k hk => .inr (by omega))).drew
        have L5 := Lib.hid l5; have X5 := Lib.hid x5
        clear hW5 l5 x5 c1 f1
        refine (HN4.out _ g5).mono ?_
        rintro e wn ⟨rfl, rfl⟩
        have hp : D.headTo (k + 1) = (c, ln) := by rw [HHD.out]; unfold pick; rw [hc, hn, if_pos hgt]
        have HP := Lib.hid hp
        clear hp g5
        go_wp2
        go_roundw
        case rel => exact ⟨k + 1, by omega, by go_num, by rw [HP.out], by rw [HP.out]; exact L5.out, X5.out⟩
        case measure => simp [intOf]; omega
      · have hp : D.headTo (k + 1) = H := by rw [HHD.out]; unfold pick; rw [hc, if_neg hgt]
        have HP := Lib.hid hp
        clear hp
        go_wp2
        go_roundw
        case rel => exact ⟨k + 1, by omega, by go_num, by rw [HP.out], by rw [HP.out]; exact L3.out, X3.out⟩
        case measure => simp [intOf]; omega
    · obtain rfl : k = 2 := by omega
      have hh : D.headTo 2 = D.head := rfl
      rw [hh] at L1 hko
      rw [hh]
      have HO := Lib.hid (openR_up hs HDN.out)
      generalize D.head = H at *
      obtain ⟨cn, ln⟩ := H
      simp only at hko
      have hq : IntKind.u64.wrap (IntKind.i64.wrap (64 * IntKind.i64.wrap (D.size - 2))) = (D.size - 2) * 64 := by rw [wrapI (D.size - 2) (by omega) (by omega), wrapI (64 * (D.size - 2)) (by omega) (by omega), wrapU _ (by omega) (by omega)]; omega
      have HQ := Lib.hid hq
      clear hq
      have d0 := (HD.out.chg X1.out (fun _ _ h => h)).size_.1
      simp only at L1 HO
      by_cases hbig : (D.size - 2) * 64 < ln
      · have hf : openR D = (6, none) := by rw [HO.out, if_pos hbig]
        have HF := Lib.hid hf
        clear hf
        go_wp2
        go_ret3
        rw [HF.out]
        exact ⟨rfl, X1.out⟩
      · have hf : openR D = openFin D cn ln := by rw [HO.out, if_neg hbig]
        have HF := Lib.hid hf
        obtain ⟨n, hn⟩ : ∃ n : Nat, ln = n := ⟨ln.toNat, by omega⟩
        subst hn
        clear hf HO
        go_wp2_with fail
        have hn64 : n ≤ 4194176 := by omega
        have CN := Lib.hid hko.1
        clear hko
        go_loopw [10] (fun s10 wr => ∃ (i : Nat) (tv : Value), i ≤ n ∧ s10 = .int .i64 i ∧ wr.heap[w.heap.size]? = some (.cells #[.pointer (some ⟨r, 0, none⟩), .int .u64 cn, tv, .slice none 0 0, .int .i64 0] 86 (0, 0)) ∧ Byts wr (w.heap.size + 1) tv ((D.stream n).take i) ∧ Chg (fun _ => False) w wr) (fun s10 _ => n - (intOf s10).toNat)
        case atStart => exact ⟨0, .slice none 0 0, Nat.zero_le _, rfl, L1.out, Byts.nil _ _, X1.out⟩
        case round =>
          obtain ⟨i, tv, hi, rfl, hl, hb, hx⟩ := hrel
          have L3 := Lib.hid hl; have X3 := Lib.hid hx; have B3 := Lib.hid hb
          have hsx := hx.size
          have hlm := lt_of_heap hl
          obtain ⟨to_, tc, he, _⟩ := hb.form
          rw [List.length_take, stream_len D H64.out, Nat.min_eq_left hi] at he
          subst he
          clear hl hx hb
          by_cases hin : i < n
          · obtain ⟨he1, he2⟩ := HE.out ((2 : Int) + (i / 64 : Nat)) (by omega) (by omega)
            obtain ⟨y, hy, hty⟩ := stream_take D H64.out n i hin
            have hl2 := H64.out ((2 : Int) + (i / 64 : Nat))
            have HE1 := Lib.hid he1; have HE2 := Lib.hid he2; have HY := Lib.hid hy; have HTY := Lib.hid hty
            clear he1 he2 hy hty
            have hq1 : (2 : Int) + (i : Int) / 64 = 2 + (i / 64 : Nat) := by omega
            go_wp2_with fail
            refine (rread_any r _ D ((2 : Int) + (i / 64 : Nat)) _ (HD.out.chg X3.out (fun _ _ h => h))).mono ?_
            rintro e w4 ⟨rfl, x4⟩
            rw [HE1.out, HE2.out]
            generalize D.now ((2 : Int) + (i / 64 : Nat)) = s at *
            have HI := Lib.hid (info_secC hl2)
            have HLS := Lib.hid (show (secC s).length = (secC sec0).toArray.size by simp [hl2, sec0_len])
            have l4 := x4.heap L3.out (fun h => h)
            have L4 := Lib.hid l4; have X4 := Lib.hid (X3.out.trans x4 (fun _ h => .inl h)); have B4 := Lib.hid (B3.out.quiet x4)
            have hz4 := x4.size
            clear x4 l4
            go_wp2_with (first | (refine wpList_alloc_sec rfl rfl ?_) | (refine wpList_store_new rfl 31 _ _ rfl (secC s) _ rfl rfl rfl HLS.out HI.out (secC_one _) ?_))
            obtain ⟨W5, hW5⟩ : ∃ W5, W5 = w4.alloc (.cells (secC s).toArray 31) := ⟨_, rfl⟩
            rw [← hW5]
            have g5 : W5.drew.heap[w4.heap.size]? = some (.cells (secC s).toArray 31 (0, 0)) := by rw [hW5]; exact hal_new
            have l5 : W5.drew.heap[w.heap.size]? = some (.cells #[.pointer (some ⟨r, 0, none⟩), .int .u64 cn, .slice to_ i tc, .slice none 0 0, .int .i64 0] 86 (0, 0)) := by rw [hW5]; exact (hal_old (lt_of_heap L4.out)).trans L4.out
            have x5 : Chg (fun _ => False) w W5.drew := by rw [hW5]; exact (X4.out.alloc _).drew
            have b5 : Byts W5.drew (w.heap.size + 1) (.slice to_ i tc) ((D.stream n).take i) := by rw [hW5]; exact B4.out.quiet ((Chg.refl _ _).alloc _).drew
            have z5 : W5.drew.heap.size = w4.heap.size + 1 := by rw [hW5]; simp
            have G5 := Lib.hid g5; have L5 := Lib.hid l5; have X5 := Lib.hid x5; have B5 := Lib.hid b5; have Z5 := Lib.hid z5
            clear hW5 g5 l5 x5 b5 z5
            have hc1 := cell_of_row W5.drew _ 2 _ _ _ L5.out
            obtain ⟨j, hj⟩ : ∃ j : Nat, j = i % 64 := ⟨_, rfl⟩
            have hc2 : W5.drew.cell? ⟨w4.heap.size, j, none⟩ = some (.int .u8 y) := by
              rw [hj]
              rw [cell_of_row W5.drew _ _ _ _ _ G5.out]
              simp only [secC, List.getElem?_toArray, List.getElem?_map, HY.out, Option.map_some]
            have hrem : (i : Int).tmod 64 = (j : Int) := by rw [Int.tmod_eq_emod_of_nonneg (by omega), hj]; omega
            have hj64 : (0 : Int) ≤ (j : Int) ∧ (j : Int) < 64 := by omega
            have C1 := Lib.hid hc1; have C2 := Lib.hid hc2; have HRM := Lib.hid hrem
            clear hc1 hc2 hrem hj
            refine wp_region_lex (fun w' => w'.cell? ⟨w.heap.size, 2, none⟩ = some (.slice to_ i tc) ∧ w'.cell? ⟨w4.heap.size, j, none⟩ = some (.int .u8 y)) 13 [9, 10, 13] [0, 1, 2, 3, 4, 5, 6, 7, 8, 9, 10, 11, 12, 13] (by kernel_rfl) (by kernel_rfl) ⟨C1.out, C2.out⟩ ?_
            try simp only [Act.put, List.setIfInBounds_toArray, List.set_cons_zero, List.set_cons_succ]
            iterate 7
              refine' lex_free (v := _) rfl rfl rfl ?_ (fun _ _ _ h => h) ?_
              rotate_left
              · rintro W ⟨hW1, hW2⟩
                go_simp
                with_reducible rfl
              try simp only [Act.put, List.setIfInBounds_toArray, List.set_cons_zero, List.set_cons_succ]
            rw [HRM.out]
            iterate 2
              refine' lex_free (v := _) rfl rfl rfl ?_ (fun _ _ _ h => h) ?_
              rotate_left
              · rintro W ⟨hW1, hW2⟩
                go_simp
                with_reducible rfl
              try simp only [Act.put, List.setIfInBounds_toArray, List.set_cons_zero, List.set_cons_succ]
            refine lex_op rfl rfl rfl (fun K hK => ?_)
            go_simp
            obtain ⟨W6, hW6⟩ : ∃ W6, W6 = (W5.alloc (.cells #[.int .u8 y] 5)).drew := ⟨_, rfl⟩
            rw [← hW6]
            have g6 : W6.heap[W5.heap.size]? = some (.cells #[.int .u8 y] 5 (0, 0)) := by rw [hW6]; exact hal_new
            have x56 : Chg (fun _ => False) W5.drew W6 := by rw [hW6]; exact ((Chg.refl (fun _ => False) W5.drew).alloc (.cells #[.int .u8 y] 5))
            have l6 := x56.heap L5.out (fun h => h)
            have k6 := x56.heap G5.out (fun h => h)
            have G6 := Lib.hid g6; have L6 := Lib.hid l6; have K6 := Lib.hid k6; have X6 := Lib.hid (X5.out.trans x56 (fun _ h => .inl h)); have B6 := Lib.hid (B5.out.quiet x56)
            have hz6 := x56.size
            have c62 : W6.cell? ⟨w4.heap.size, j, none⟩ = some (.int .u8 y) := (cell_of_heap (k6.trans G5.out.symm)).trans C2.out
            have C62 := Lib.hid c62
            clear hW6 g6 x56 l6 k6 c62
            refine hK _ _ (fun _ => ⟨cell_of_row W6 _ 2 _ _ _ L6.out, C62.out⟩) ?_
            clear hK K
            try simp only [Act.put, List.setIfInBounds_toArray, List.set_cons_zero, List.set_cons_succ]
            have hz5 := Z5.out
            have hz65 : w.heap.size + 1 ≤ W6.heap.size := by have := lt_of_heap L6.out; omega
            refine lex_op rfl rfl rfl (fun K hK => ?_)
            refine wp_byts _ _ rfl (w.heap.size + 1) (.slice to_ i tc) ((D.stream n).take i) rfl B6.out (some ⟨W5.heap.size, 0, none⟩) 1 [y] rfl (fun h => by cases h) (fun ad had q hq => ?_) (by rw [List.length_take, List.length_singleton]; omega) hz65 (fun v7 w7 y7 x7 n7 => ?_)
            · obtain rfl := Option.some.inj had
              simp only [List.length_singleton] at hq
              obtain rfl : q = 0 := by omega
              rw [Addr.add_mid, cell_of_row W6 _ _ _ _ _ G6.out]
              rfl
            rw [← HTY.out] at y7
            have nlo : ∀ g, (Value.slice to_ i tc).ownBlock = some g → w.heap.size + 1 ≤ g := fun g hg => B6.out.lo g hg
            have l7 := x7.heap L6.out (fun h => by have := nlo _ h; omega)
            have x07 : Chg (fun _ => False) w w7 := X6.out.trans x7 (fun g h => .inr (by have := nlo g h; omega))
            obtain ⟨to7, tc7, he7, _⟩ := y7.form
            rw [List.length_take, stream_len D H64.out, Nat.min_eq_left (by omega)] at he7
            subst he7
            have hz7 : W6.heap.size ≤ w7.heap.size := x7.size
            have L7 := Lib.hid l7; have X7 := Lib.hid x07; have Y7 := Lib.hid y7
            have k7 := x7.heap K6.out (fun h => by
              have h1 := B3.out.lt h
              omega)
            have K7 := Lib.hid k7
            have c72 : w7.cell? ⟨w4.heap.size, j, none⟩ = some (.int .u8 y) := (cell_of_heap (k7.trans K6.out.symm)).trans C62.out
            have C72 := Lib.hid c72
            clear l7 x07 y7 k7 x7 n7 nlo c72
            refine hK _ _ (fun _ => ⟨cell_of_row w7 _ 2 _ _ _ L7.out, C72.out⟩) ?_
            clear hK K
            try simp only [Act.put, List.setIfInBounds_toArray, List.set_cons_zero, List.set_cons_succ]
            iterate 2
              refine' lex_free (v := _) rfl rfl rfl ?_ (fun _ _ _ h => h) ?_
              rotate_left
              · rintro W ⟨hW1, hW2⟩
                go_simp
                with_reducible rfl
              try simp only [Act.put, List.setIfInBounds_toArray, List.set_cons_zero, List.set_cons_succ]
            have f7 := frozen_of_row w7 _ 2 _ _ L7.out
            have c7 := cell_of_row w7 _ 2 _ _ _ L7.out
            refine lex_op rfl rfl rfl (fun K hK => ?_)
            go_simp
            refine hK _ _ (fun h => absurd rfl h) ?_
            clear hK K
            try simp only [Act.put, List.setIfInBounds_toArray, List.set_cons_zero, List.set_cons_succ]
            refine lex_nil ?_
            clear f7 c7
            go_wp2
            go_roundw
            case rel =>
              have x8 : Chg (fun k => k = w.heap.size) w7 (w7.setCell ⟨w.heap.size, 2, none⟩ (.slice to7 (i + 1) tc7)) := (Chg.refl (fun k => k = w.heap.size) w7).setCell (p := ⟨w.heap.size, 2, none⟩) (.inl rfl) _
              refine ⟨i + 1, .slice to7 (i + 1) tc7, by omega, by go_num, ?_, ?_, ?_⟩
              · rw [hset_eq L7.out]; rfl
              · exact Y7.out.chg x8 (fun g hg e => by have := Y7.out.lo g hg; omega)
              · exact X7.out.trans x8 (fun k hk => .inr (by omega))
            case measure => simp [intOf]; omega
          · obtain rfl : i = n := by omega
            have hst : (D.stream i).take i = D.stream i := List.take_of_length_le (by rw [stream_len D H64.out]; exact Nat.le_refl _)
            rw [hst] at B3
            have HS2 := Lib.hid (stream_len D H64.out i)
            have HBY : Bytes (D.stream i) := fun b hb => bytes_by D HB.out _ _ b (List.mem_of_mem_take hb)
            generalize hbs : D.stream i = bs at *
            have HBS := Lib.hid hbs
            clear hbs
            obtain ⟨w3, h3⟩ : ∃ x, x = wr := ⟨_, rfl⟩
            subst h3
            have c2 := cell_of_row w3 _ 2 _ _ _ L3.out
            go_wp2_with fail
            clear c2
            go_loopw [13, 14] (fun s13 s14 wr => ∃ (at_ : Nat) (acc : List (List Int)) (us : List Value), at_ ≤ bs.length ∧ s14 = .int .i64 at_ ∧ RecsM wr (fun k => k < w3.heap.size) s13 acc us ∧ Chg (fun _ => False) w3 wr ∧ acc.length + (bs.length - at_) ≤ bs.length ∧ recsR bs = (recsR (bs.drop at_)).map (acc ++ ·)) (fun _ s14 _ => bs.length - (intOf s14).toNat)
            case atStart => exact ⟨0, [], [], Nat.zero_le _, rfl, RecsM.nil _ _, Chg.refl _ _, by simp, by simp⟩
            case round =>
              obtain ⟨q, acc, us, hq, rfl, hm, hx, hacc, heq⟩ := hrel
              have l1 := hx.heap L3.out (fun h => h)
              have c2 := cell_of_row wr _ 2 _ _ _ l1
              have HM := Lib.hid hm; have HX := Lib.hid hx; have HEQ := Lib.hid heq; have L9 := Lib.hid l1
              have B9 := Lib.hid (B3.out.quiet hx)
              have hsz9 := hx.size
              clear hm hx heq l1
              have hlen : bs.length = i := HS2.out
              by_cases hlt : q < i
              · obtain ⟨g, rfl, hcap⟩ : ∃ g, to_ = some ⟨g, 0, none⟩ ∧ i ≤ tc := by
                  obtain ⟨ao, c, he, hf⟩ := B9.out.form
                  obtain ⟨g, e2, _⟩ := hf (by omega)
                  simp only [Value.slice.injEq] at he
                  refine ⟨g, by rw [he.1, e2], ?_⟩
                  have := B9.out.capLe.1
                  omega
                have hrl : (bs.drop q).length = i - q := by rw [List.length_drop]; omega
                by_cases h4 : i < q + 4
                · have hbad := recsR_bad (b := bs.drop q) (by omega) (.inl (by omega))
                  have HBad := Lib.hid hbad
                  clear hbad hrl
                  go_wp2
                  go_ret3
                  rw [HF.out]
                  unfold openFin
                  rw [show ((i : Nat) : Int).toNat = i from Int.toNat_natCast i, HBS.out, HEQ.out, HBad.out]
                  exact ⟨rfl, X3.out.trans HX.out (fun _ h => .inl h)⟩
                · have hl4 : ((bs.drop q).take 4).length = 4 := by rw [List.length_take]; omega
                  have hby : Bytes ((bs.drop q).take 4) := fun y hy => HBY y (List.mem_of_mem_drop (List.mem_of_mem_take hy))
                  obtain ⟨m, hmm⟩ : ∃ m : Nat, numOf ((bs.drop q).take 4) = m := ⟨(numOf ((bs.drop q).take 4)).toNat, by have := (numOf_le _ hby).1; omega⟩
                  have hm2 := (numOf_le _ hby).2
                  rw [hl4, hmm] at hm2
                  have hm3 : m < 4294967296 := by have : (256 : Int) ^ 4 = 4294967296 := (by decide); omega
                  clear hm2
                  have hnum : ∀ W : World, W.cell? ⟨g, q, none⟩ = wr.cell? ⟨g, q, none⟩ → W = wr → ∀ cc : Nat, Calls Try.prog 57 #[.slice (some ⟨g, q, none⟩) 4 cc] W fun e w' => e = .returned (.int .u64 m) ∧ W = w' := fun W _ hW cc => by
                    subst hW
                    have := rnumber_any g q cc ((bs.drop q).take 4) W hby (by omega) (fun j hj => by
                      rw [hl4] at hj
                      rw [List.getElem_take, List.getElem_drop]
                      exact B9.out.at_ (q + j) (by omega))
                    rw [hl4, hmm] at this
                    exact this
                  have HNum := Lib.hid hnum
                  have HMM := Lib.hid hmm
                  clear hnum hmm hl4 hby
                  have hsl4 : (q : Int) + 4 ≤ tc := by omega
                  by_cases h5 : i < q + 4 + m
                  · have hbad := recsR_bad (b := bs.drop q) (by omega) (.inr (by rw [HMM.out]; omega))
                    have HBad := Lib.hid hbad
                    clear hbad hrl
                    go_wp2_with fail
                    refine (HNum.out wr rfl rfl _).mono ?_
                    rintro e wn ⟨rfl, rfl⟩
                    go_wp2
                    go_ret3
                    rw [HF.out]
                    unfold openFin
                    rw [show ((i : Nat) : Int).toNat = i from Int.toNat_natCast i, HBS.out, HEQ.out, HBad.out]
                    exact ⟨rfl, X3.out.trans HX.out (fun _ h => .inl h)⟩
                  · have hgood := recsR_good (b := bs.drop q) (by omega) m HMM.out (by omega)
                    have HG := Lib.hid hgood
                    clear hgood hrl
                    go_wp2_with fail
                    refine (HNum.out wr rfl rfl _).mono ?_
                    rintro e wn ⟨rfl, rfl⟩
                    go_wp2_with fail
                    refine (HNum.out wr rfl rfl _).mono ?_
                    rintro e wn ⟨rfl, rfl⟩
                    have hsl5 : (q : Int) + 4 + m ≤ tc := by omega
                    have hyl : ((bs.drop (q + 4)).take m).length = m := by rw [List.length_take, List.length_drop]; omega
                    go_wp2_with (at_builtin; refine wpList_byts rfl _ _ rfl wr.heap.size (.slice none 0 0) [] rfl (Byts.nil _ _) _ _ _ ((bs.drop (q + 4)).take m) ?_ rfl ?_ ?_ ?_ (Nat.le_refl _) ?_)
                    · rw [hyl]; omega
                    · intro j hj; exfalso; omega
                    · intro j hj
                      exact B9.out.at_ (q + 4 + j) (by omega)
                    · rw [hyl]; simp; omega
                    all_goals
                      intro v1 w1 y1 x1 n1
                      have x1' : Chg (fun _ => False) wr w1 := x1.mono (fun k hk => by simp [Value.ownBlock] at hk)
                      obtain ⟨o1, c1, he1, _⟩ := y1.form
                      obtain ⟨n1', hn1'⟩ : ∃ k, k = ((bs.drop (q + 4)).take m).length := ⟨_, rfl⟩
                      rw [← hn1'] at he1
                      subst he1
                      have zx := x1'.size
                      have hm7 : RecsM (w1.alloc (.cells #[.slice o1 n1' c1] 22)) (fun k => k < w3.heap.size) u13 acc us := HM.out.grow ⟨((x1'.alloc _).mono (fun _ h => h.elim)), fun k hk => .inl hk⟩
                      have hb7 : BytR (w1.alloc (.cells #[.slice o1 n1' c1] 22)) (fun k => k < w3.heap.size ∨ u13.ownBlock = some k) (.slice o1 n1' c1) ((bs.drop (q + 4)).take m) := by
                        refine (y1.quiet ((Chg.refl _ _).alloc _)).read (fun y hy => HBY y (List.mem_of_mem_drop (List.mem_of_mem_take hy))) (fun g hg h => ?_)
                        have := y1.lo g hg
                        rcases h with h | h
                        · omega
                        · have := (HM.out.outB h).1; omega
                      have HM7 := Lib.hid hm7; have HB7 := Lib.hid hb7; have X1' := Lib.hid x1'
                      clear hm7 hb7 x1' x1 y1 n1 hn1'
                      go_wp2_with (at_builtin; refine recs_app rfl _ _ rfl (fun k => k < w3.heap.size) _ acc us rfl HM7.out w1.heap.size (.slice o1 n1' c1) _ rfl hal_new HB7.out ?_ ?_ ?_)
                      · omega
                      · simp; omega
                      · intro v8 w8 m8 x8 n8
                        have hx8 : Chg (fun _ => False) w3 w8 := by
                          refine (HX.out.trans (X1'.out.alloc _) (fun _ h => .inl h)).trans x8 (fun k hk => .inr ?_)
                          have := HM.out.out k hk
                          omega
                        have M8 := Lib.hid m8; have X8 := Lib.hid hx8
                        clear m8 hx8 x8 n8
                        go_wp2
                        go_roundw
                        case rel =>
                          refine ⟨q + 4 + m, acc ++ [(bs.drop (q + 4)).take m], _, by omega, by go_num, M8.out, X8.out, ?_, ?_⟩
                          · rw [List.length_append, List.length_singleton]; omega
                          · rw [HEQ.out, HG.out, Option.map_map, List.drop_drop, List.drop_drop, show q + (m + 4) = q + 4 + m by omega]
                            congr 1
                            funext x
                            simp
                        case measure => simp [intOf]; omega
              · obtain rfl : q = i := by omega
                have h00 : bs.drop q = [] := List.drop_eq_nil_of_le (by omega)
                have HR0 := Lib.hid h00
                clear h00
                go_wp2
                go_ret3
                rw [HF.out]
                unfold openFin
                rw [show ((q : Nat) : Int).toNat = q from Int.toNat_natCast q, HBS.out, HEQ.out, HR0.out]
                have hmr := HM.out.read
                have x09 := X3.out.trans HX.out (fun _ h => .inl h)
                have hl3 := lt_of_heap L3.out
                refine ⟨⟨w.heap.size, u13, fun k => w.heap.size ≤ k ∧ k < w3.heap.size, rfl, ⟨.slice to_ q tc, .slice none 0 0, ?_, ?_, ?_, (apartB_nil _).symm, ?_, ?_, ?_, ?_⟩, ?_, ?_⟩, x09⟩
                · exact HX.out.heap L3.out (fun h => h)
                · show Byts wr 0 _ (bs.take ((q : Nat) : Int).toNat)
                  rw [Int.toNat_natCast, List.take_of_length_le (by omega)]
                  exact ⟨B9.out.row, fun g _ => Nat.zero_le g⟩
                · show Byts wr 0 _ (bs.drop ((q : Nat) : Int).toNat)
                  rw [Int.toNat_natCast, HR0.out]
                  exact Byts.nil _ _
                · exact ⟨Nat.le_refl _, hl3⟩
                · intro g hg
                  exact ⟨by have := B3.out.lo g hg; omega, B3.out.lt hg⟩
                · intro g hg
                  simp [Value.ownBlock] at hg
                · refine ⟨CN.out.1, CN.out.2, by show (0 : Int) ≤ ((q : Nat) : Int); omega, by show ((q : Nat) : Int) ≤ (bs.length : Int); omega, by show bs.length ≤ _; omega, HBY, by show (0 : Int) ≤ 0; decide, by show 4 * (0 : Int) ≤ (bs.length : Int); omega⟩
                · intro k hk
                  exact ⟨hk.1, by have := hk.2; omega⟩
                · show RecsR wr _ u13 (acc ++ [])
                  rw [List.append_nil]
                  refine hmr.weaken (fun k _ hk => ?_)
                  rcases hk with h | h
                  · have := X3.out.size; omega
                  · exact h.2
theorem ropen_any (r : Nat) (A : Nat → Prop) (D : Dsk) (w : World) (hd : RefAt w r A D) (hby : ∀ k, Bytes (D.now k)) :
    Calls Try.prog 38 #[.pointer (some ⟨r, 0, none⟩)] w fun e w' => ROpenPost w r (openR D) e w' ∧ Chg (fun _ => False) w w' := by
  by_cases hs : D.size < 3
  · refine (ropen_small r A D w hd hs).mono ?_
    rintro e w' ⟨rfl, rfl⟩
    have : openR D = (1, none) := by unfold openR; rw [if_pos hs]
    rw [this]
    exact ⟨rfl, Chg.refl _ _⟩
  · cases hdn : D.down with
    | true =>
      refine (ropen_down r A D w hd (by omega) hdn).mono ?_
      rintro e w' ⟨rfl, x⟩
      have : openR D = (24, none) := by unfold openR; rw [if_neg hs, if_pos hdn]
      rw [this]
      exact ⟨rfl, x⟩
    | false => exact ropen_up r A D w hd (by omega) hdn hby
end Go.Proofs.Ytihpobpkhhkejaa
