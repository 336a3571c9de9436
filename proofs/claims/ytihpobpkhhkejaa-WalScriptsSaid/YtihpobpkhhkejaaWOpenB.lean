/-
  What the log's Open reads off a disk that is up. Conditions: a disk of bytes stands at the address, it is not down.
-/
import Derived.Test.YtihpobpkhhkejaaWOpen
import Derived.Deep.DeepCutAuto
set_option autoImplicit false
namespace Go.Proofs.Ytihpobpkhhkejaa
open Go Go.RowKit

set_option maxRecDepth 100000 in
set_option maxHeartbeats 2000000 in
theorem open_up (d : Nat) (A : Nat → Prop) (D : Dsk) (w : World) (hd : DiskAt w d A D) (hs : 3 ≤ D.size) (hdn : D.down = false) (hby : ∀ k, Bytes (D.now k)) :
    Calls Try.prog 31 #[.pointer (some ⟨d, 0, none⟩)] w fun e w' => OpenPost w d (openR D) e w' ∧ Chg (fun _ => False) w w' := by
  have hok := hd.ok
  have hs2 := hok.2.1
  have h64 := hok.2.2.2.2.1
  have HD := Lib.hid hd
  have HE := Lib.hid (show ∀ n : Int, 0 ≤ n → n < D.size → errOf D.size D.down n = 0 ∧ D.readR n = D.now n from fun n h0 h1 => by
    have : errOf D.size D.down n = 0 := by rw [hdn]; exact errOf_in h0 h1
    exact ⟨this, by unfold Dsk.readR; rw [if_pos this]⟩)
  have HB := Lib.hid hby; have H64 := Lib.hid h64; have HDN := Lib.hid hdn
  clear hd hok hby h64 hdn
  go_enter Try.func31, Try.ntmps31
  go_wp2_with fail
  refine (size_any d _ D w HD.out).mono ?_
  rintro e w1 ⟨rfl, rfl⟩
  go_wp2
  go_loopw [25] (fun i wr => ∃ k : Nat, k ≤ 2 ∧ i = .int .i64 k ∧ wr.heap[w.heap.size]? = some (.cells #[.pointer (some ⟨d, 0, none⟩), .int .u64 (D.headTo k).1, .int .u64 (D.headTo k).2, .slice none 0 0, .int .i64 0] 103 (0, 0)) ∧ Chg (fun _ => False) w wr) (fun i _ => 2 - (intOf i).toNat)
  case atStart => exact ⟨0, by omega, rfl, hal_new, (Chg.refl _ _).alloc _⟩
  case round =>
    obtain ⟨k, hk, rfl, hl, hx⟩ := hrel
    have L1 := Lib.hid hl; have X1 := Lib.hid hx
    clear hl hx
    have hko := headTo_ok D HB.out k
    by_cases hk2 : k < 2
    · obtain ⟨he1, he2⟩ := HE.out k (by omega) (by omega)
      have HE1 := Lib.hid he1; have HE2 := Lib.hid he2
      clear he1 he2
      have hhd := show D.headTo (k + 1) = pick (D.headTo k) (D.now k) from rfl
      have HHD := Lib.hid hhd
      clear hhd
      generalize D.headTo k = H at *
      go_wp2_with fail
      refine (read_any d _ D k _ (HD.out.chg X1.out (fun _ _ h => h))).mono ?_
      rintro e w2 ⟨rfl, x2⟩
      rw [HE1.out, HE2.out]
      unfold secV
      have hl2 := H64.out k
      have hb2 := HB.out k
      generalize D.now k = s at *
      have HI := Lib.hid (info_secC hl2)
      have HLS := Lib.hid (show (secC s).length = (secC sec0).toArray.size by simp [hl2, sec0_len])
      have l2 := x2.heap L1.out (fun h => h)
      have L2 := Lib.hid l2; have X2 := Lib.hid (X1.out.trans x2 (fun _ h => .inl h)); have HL2 := Lib.hid hl2
      clear x2 l2
      go_wp2_with (first | (refine wpList_alloc_sec rfl rfl ?_) | (refine wpList_store_new rfl 31 _ _ rfl (secC s) _ rfl rfl rfl HLS.out HI.out (secC_one _) ?_))
      obtain ⟨W3, hW3⟩ : ∃ W3, W3 = w2.alloc (.cells (secC s).toArray 31) := ⟨_, rfl⟩
      rw [← hW3]
      have g3 : W3.drew.heap[w2.heap.size]? = some (.cells (secC s).toArray 31 (0, 0)) := by rw [hW3]; exact hal_new
      have l3 : W3.drew.heap[w.heap.size]? = some (.cells #[.pointer (some ⟨d, 0, none⟩), .int .u64 H.1, .int .u64 H.2, .slice none 0 0, .int .i64 0] 103 (0, 0)) := by rw [hW3]; exact (hal_old (lt_of_heap L2.out)).trans L2.out
      have x3 : Chg (fun _ => False) w W3.drew := by rw [hW3]; exact (X2.out.alloc _).drew
      have z3 : W3.drew.heap.size = w2.heap.size + 1 := by rw [hW3]; simp
      have n8 : ∀ W : World, W.heap[w2.heap.size]? = some (.cells (secC s).toArray 31 (0, 0)) → Calls Try.prog 52 #[.slice (some ⟨w2.heap.size, 0, none⟩) 8 64] W fun e w' => e = .returned (.int .u64 (cntOf s)) ∧ W = w' := fun W hW => by
        have hl8 : (s.take 8).length = 8 := by rw [List.length_take]; omega
        have := number_any w2.heap.size 0 64 (s.take 8) W (fun b hb => hb2 b (List.mem_of_mem_take hb)) (by omega) (fun j hj => by
          rw [cell_of_row W _ _ _ _ _ hW, List.getElem_take]
          simp [secC])
        rw [hl8] at this
        exact this
      have n4 : ∀ W : World, W.heap[w2.heap.size]? = some (.cells (secC s).toArray 31 (0, 0)) → Calls Try.prog 52 #[.slice (some ⟨w2.heap.size, 8, none⟩) 4 56] W fun e w' => e = .returned (.int .u64 (lenOf s)) ∧ W = w' := fun W hW => by
        have hl4 : ((s.drop 8).take 4).length = 4 := by rw [List.length_take, List.length_drop]; omega
        have := number_any w2.heap.size 8 56 ((s.drop 8).take 4) W (fun b hb => hb2 b (List.mem_of_mem_drop (List.mem_of_mem_take hb))) (by omega) (fun j hj => by
          rw [cell_of_row W _ _ _ _ _ hW, List.getElem_take, List.getElem_drop]
          simp [secC])
        rw [hl4] at this
        exact this
      have G3 := Lib.hid g3; have L3 := Lib.hid l3; have X3 := Lib.hid x3; have HN8 := Lib.hid n8; have HN4 := Lib.hid n4; have Z3 := Lib.hid z3
      clear hW3 g3 l3 x3 n8 n4 z3
      generalize hc : cntOf s = c at *
      generalize hn : lenOf s = ln at *
      try simp only [Act.put, List.setIfInBounds_toArray, List.set_cons_zero, List.set_cons_succ]
      go_cut [9] (fun s9 wx => s9 = .pointer (some ⟨w2.heap.size + 1, 0, none⟩) ∧ wx = W3.drew.alloc (.cells #[.int .u64 c, .int .u64 ln] 101))
      case first =>
        refine wp_region_lexT (fun _ => True) 6 (.free 0 (.free 2 (.fork 1 5 (.fork 3 5 (.free 4 (.one 5 (.one 6 .done))) (.one 3 (.free 4 (.one 6 .done)))) (.one 1 (.one 3 (.free 4 (.one 6 .done))))))) (by kernel_rfl) (by kernel_rfl) trivial ?_
        try simp only [Act.put, List.setIfInBounds_toArray, List.set_cons_zero, List.set_cons_succ]
        iterate 2
          refine' lexT_free (v := _) rfl rfl ?_ (fun _ _ _ h => h) ?_
          rotate_left
          · rintro W -
            go_simp
            with_reducible rfl
          try simp only [Act.put, List.setIfInBounds_toArray, List.set_cons_zero, List.set_cons_succ]
        refine lexT_fork rfl rfl rfl rfl (fun K hK => ?_) (fun K hK => ?_)
        · go_simp
          refine (HN8.out _ G3.out).mono ?_
          rintro e wn ⟨rfl, rfl⟩
          refine hK _ _ (fun _ => trivial) ?_
          clear hK K
          try simp only [Act.put, List.setIfInBounds_toArray, List.set_cons_zero, List.set_cons_succ]
          refine lexT_fork rfl rfl rfl rfl (fun K hK => ?_) (fun K hK => ?_)
          · go_simp
            refine (HN4.out _ G3.out).mono ?_
            rintro e wn ⟨rfl, rfl⟩
            refine hK _ _ (fun _ => trivial) ?_
            clear hK K
            try simp only [Act.put, List.setIfInBounds_toArray, List.set_cons_zero, List.set_cons_succ]
            refine' lexT_free (v := _) rfl rfl ?_ (fun _ _ _ h => h) ?_
            rotate_left
            · rintro W -
              go_simp
              with_reducible rfl
            try simp only [Act.put, List.setIfInBounds_toArray, List.set_cons_zero, List.set_cons_succ]
            refine lexT_one rfl rfl (fun K hK => ?_)
            go_simp
            refine hK _ _ (fun _ => trivial) ?_
            clear hK K
            try simp only [Act.put, List.setIfInBounds_toArray, List.set_cons_zero, List.set_cons_succ]
            refine lexT_one rfl rfl (fun K hK => ?_)
            go_simp
            refine hK _ _ (fun h => absurd rfl h) ?_
            clear hK K
            refine lexT_done ?_
            go_wp2
            go_meet
            rw [← Z3.out]
            exact ⟨rfl, rfl⟩
          · go_simp
            refine hK _ _ (fun _ => trivial) ?_
            clear hK K
            try simp only [Act.put, List.setIfInBounds_toArray, List.set_cons_zero, List.set_cons_succ]
            refine lexT_one rfl rfl (fun K hK => ?_)
            go_simp
            refine (HN4.out _ ((hal_old (lt_of_heap G3.out)).trans G3.out)).mono ?_
            rintro e wn ⟨rfl, rfl⟩
            refine hK _ _ (fun _ => trivial) ?_
            clear hK K
            try simp only [Act.put, List.setIfInBounds_toArray, List.set_cons_zero, List.set_cons_succ]
            refine' lexT_free (v := _) rfl rfl ?_ (fun _ _ _ h => h) ?_
            rotate_left
            · rintro W -
              go_simp
              with_reducible rfl
            try simp only [Act.put, List.setIfInBounds_toArray, List.set_cons_zero, List.set_cons_succ]
            refine lexT_one rfl rfl (fun K hK => ?_)
            go_simp
            refine hK _ _ (fun h => absurd rfl h) ?_
            clear hK K
            refine lexT_done ?_
            go_wp2
            go_meet
            rw [← Z3.out]
            exact ⟨rfl, rfl⟩
        · go_simp
          refine hK _ _ (fun _ => trivial) ?_
          clear hK K
          try simp only [Act.put, List.setIfInBounds_toArray, List.set_cons_zero, List.set_cons_succ]
          refine lexT_one rfl rfl (fun K hK => ?_)
          go_simp
          refine (HN8.out _ ((hal_old (lt_of_heap G3.out)).trans G3.out)).mono ?_
          rintro e wn ⟨rfl, rfl⟩
          refine hK _ _ (fun _ => trivial) ?_
          clear hK K
          try simp only [Act.put, List.setIfInBounds_toArray, List.set_cons_zero, List.set_cons_succ]
          refine lexT_one rfl rfl (fun K hK => ?_)
          go_simp
          refine (HN4.out _ ((hal_old (lt_of_heap G3.out)).trans G3.out)).mono ?_
          rintro e wn ⟨rfl, rfl⟩
          refine hK _ _ (fun _ => trivial) ?_
          clear hK K
          try simp only [Act.put, List.setIfInBounds_toArray, List.set_cons_zero, List.set_cons_succ]
          refine' lexT_free (v := _) rfl rfl ?_ (fun _ _ _ h => h) ?_
          rotate_left
          · rintro W -
            go_simp
            with_reducible rfl
          try simp only [Act.put, List.setIfInBounds_toArray, List.set_cons_zero, List.set_cons_succ]
          refine lexT_one rfl rfl (fun K hK => ?_)
          go_simp
          refine hK _ _ (fun h => absurd rfl h) ?_
          clear hK K
          refine lexT_done ?_
          go_wp2
          go_meet
          rw [← Z3.out]
          exact ⟨rfl, rfl⟩
      case rest =>
        obtain ⟨rfl, hwc⟩ := hcut
        have g4 : wc.heap[w2.heap.size + 1]? = some (.cells #[.int .u64 c, .int .u64 ln] 101 (0, 0)) := by rw [hwc, ← Z3.out]; exact hal_new
        have l4 : wc.heap[w.heap.size]? = some (.cells #[.pointer (some ⟨d, 0, none⟩), .int .u64 H.1, .int .u64 H.2, .slice none 0 0, .int .i64 0] 103 (0, 0)) := by rw [hwc]; exact (hal_old (lt_of_heap L3.out)).trans L3.out
        have x4 : Chg (fun _ => False) w wc := by rw [hwc]; exact X3.out.alloc _
        have G4 := Lib.hid g4; have L4 := Lib.hid l4; have X4 := Lib.hid x4
        clear hwc g4 l4 x4
        have p0 := cell_of_row wc _ 0 _ _ _ G4.out
        have p1 := cell_of_row wc _ 1 _ _ _ G4.out
        have q1 := cell_of_row wc _ 1 _ _ _ L4.out
        have q2 := cell_of_row wc _ 2 _ _ _ L4.out
        have ff : ∀ o, wc.frozen? ⟨w.heap.size, o, none⟩ = false := fun o => frozen_of_row wc _ o _ _ L4.out
        by_cases hgt : c > H.1
        · have hH2 : D.headTo (k + 1) = (c, ln) := by rw [HHD.out]; unfold pick; rw [hc, hn, if_pos hgt]
          have HH2 := Lib.hid hH2
          clear hH2
          go_wp2_with fail
          refine wp_region_lex (fun w' => w'.cell? ⟨w2.heap.size + 1, 0, none⟩ = some (.int .u64 c) ∧ w'.cell? ⟨w.heap.size, 1, none⟩ = some (.int .u64 H.1)) 99 [] [0, 1, 2, 3, 4, 5, 6, 7] (by kernel_rfl) (by kernel_rfl) ⟨p0, q1⟩ ?_
          iterate 8
            refine' lex_free (v := _) rfl rfl rfl ?_ (fun _ _ _ h => h) ?_
            rotate_left
            · rintro W ⟨hW1, hW2⟩
              go_simp
              with_reducible rfl
            try simp only [Act.put, List.setIfInBounds_toArray, List.set_cons_zero, List.set_cons_succ]
          refine lex_nil ?_
          go_wp2
          go_roundw
          case rel =>
            refine ⟨k + 1, by omega, by go_num, ?_, ((X4.out.mono (fun _ h => h.elim)).setCell (F := fun x => w.heap.size ≤ x) (p := ⟨w.heap.size, 1, none⟩) (.inl (Nat.le_refl _)) _ |>.setCell (p := ⟨w.heap.size, 2, none⟩) (.inl (Nat.le_refl _)) _ |>.drew).mono (fun x hx => .inr hx)⟩
            show ((wc.setCell _ _).setCell _ _).heap[_]? = _
            rw [hset_eq (hset_eq L4.out), HH2.out]
            rfl
          case measure => simp [intOf]; omega
        · have hH2 : D.headTo (k + 1) = H := by rw [HHD.out]; unfold pick; rw [hc, hn, if_neg hgt]
          have HH2 := Lib.hid hH2
          clear hH2
          go_wp2_with fail
          refine wp_region_lex (fun w' => w'.cell? ⟨w2.heap.size + 1, 0, none⟩ = some (.int .u64 c) ∧ w'.cell? ⟨w.heap.size, 1, none⟩ = some (.int .u64 H.1)) 99 [] [0, 1, 2, 3, 4, 5, 6, 7] (by kernel_rfl) (by kernel_rfl) ⟨p0, q1⟩ ?_
          iterate 8
            refine' lex_free (v := _) rfl rfl rfl ?_ (fun _ _ _ h => h) ?_
            rotate_left
            · rintro W ⟨hW1, hW2⟩
              go_simp
              with_reducible rfl
            try simp only [Act.put, List.setIfInBounds_toArray, List.set_cons_zero, List.set_cons_succ]
          refine lex_nil ?_
          go_wp2
          go_roundw
          case rel =>
            refine ⟨k + 1, by omega, by go_num, ?_, X4.out.drew⟩
            show wc.heap[_]? = _
            rw [L4.out, HH2.out]
          case measure => simp [intOf]; omega
    · obtain rfl : k = 2 := by omega
      rw [headTo_two] at hko L1
      have l1 := cell_of_row wr _ 0 _ _ _ L1.out
      have l2 := cell_of_row wr _ 2 _ _ _ L1.out
      have hq : IntKind.u64.wrap ((D.size - 2) * 64) = (D.size - 2) * 64 := wrapU _ (by omega) (by omega)
      have HQ := Lib.hid hq; have LL1 := Lib.hid l1; have LL2 := Lib.hid l2
      clear hq
      have HOP := Lib.hid (openR_up hs HDN.out)
      have hst := show D.stream D.head.2.toNat = (D.bytes 2 (upTo D.head.2.toNat)).take D.head.2.toNat from rfl
      have HST := Lib.hid hst
      clear hst
      obtain ⟨hp1, hp2⟩ : D.head.1 = (D.head.1, D.head.2).1 ∧ D.head.2 = (D.head.1, D.head.2).2 := ⟨rfl, rfl⟩
      clear hp1 hp2
      generalize hcn : D.head.1 = cn at *
      generalize hln : D.head.2 = ln at *
      clear hcn hln
      go_wp2
      refine wp_region_lex (fun w' => w'.cell? ⟨w.heap.size, 0, none⟩ = some (.pointer (some ⟨d, 0, none⟩)) ∧ w'.cell? ⟨w.heap.size, 2, none⟩ = some (.int .u64 ln)) 99 [6] [0, 1, 2, 3, 4, 5, 6, 7, 8] (by kernel_rfl) (by kernel_rfl) ⟨l1, l2⟩ ?_
      clear l1 l2
      iterate 6
        refine' lex_free (v := _) rfl rfl rfl ?_ (fun _ _ _ h => h) ?_
        rotate_left
        · rintro W ⟨hW1, hW2⟩
          go_simp
          with_reducible rfl
        try simp only [Act.put, List.setIfInBounds_toArray, List.set_cons_zero, List.set_cons_succ]
      refine lex_op rfl rfl rfl (fun K hK => ?_)
      go_simp
      refine (room_cells w.heap.size d A D wr.drew LL1.out (HD.out.chg X1.out.drew (fun _ _ h => h))).mono ?_
      rintro e w1 ⟨rfl, rfl⟩
      refine hK _ _ (fun _ => ⟨LL1.out, LL2.out⟩) ?_
      clear hK K
      try simp only [Act.put, List.setIfInBounds_toArray, List.set_cons_zero, List.set_cons_succ]
      iterate 1
        refine' lex_free (v := _) rfl rfl rfl ?_ (fun _ _ _ h => h) ?_
        rotate_left
        · rintro W ⟨hW1, hW2⟩
          go_simp
          with_reducible rfl
        try simp only [Act.put, List.setIfInBounds_toArray, List.set_cons_zero, List.set_cons_succ]
      rw [HQ.out]
      iterate 1
        refine' lex_free (v := _) rfl rfl rfl ?_ (fun _ _ _ h => h) ?_
        rotate_left
        · rintro W ⟨hW1, hW2⟩
          go_simp
          with_reducible rfl
        try simp only [Act.put, List.setIfInBounds_toArray, List.set_cons_zero, List.set_cons_succ]
      refine lex_nil ?_
      by_cases hbig : ln > (D.size - 2) * 64
      · have HO2 := Lib.hid (show openR D = (6, none) by rw [HOP.out, if_pos hbig])
        go_wp2
        go_ret3
        rw [HO2.out]
        exact ⟨rfl, X1.out.drew⟩
      · have HO2 := Lib.hid (show openR D = openFin D cn ln by rw [HOP.out, if_neg hbig])
        have hwl : IntKind.i64.wrap ln = ln := wrapI _ (by omega) (by omega)
        have HWL := Lib.hid hwl
        have hx0 : Chg (fun _ => False) w wr.drew := X1.out.drew
        have hl0 : wr.drew.heap[w.heap.size]? = some (.cells #[.pointer (some ⟨d, 0, none⟩), .int .u64 cn, .int .u64 ln, .slice none 0 0, .int .i64 0] 103 (0, 0)) := L1.out
        have X0 := Lib.hid hx0; have L0 := Lib.hid hl0
        obtain ⟨N, hN⟩ : ∃ N : Nat, N = upTo ln.toNat := ⟨_, rfl⟩
        have hNs : (N : Int) ≤ D.size - 2 := by rw [hN]; have := upTo_le ln.toNat (D.size - 2).toNat (by omega); omega
        have hNk : ∀ k : Nat, ((k * 64 : Nat) : Int) < ln ↔ k < N := fun k => by rw [hN]; unfold upTo; omega
        have HNK := Lib.hid hNk; have HNE := Lib.hid hN
        clear hwl hx0 hl0 hN hNk
        go_wp2
        go_loopw [10] (fun i wr => ∃ (k : Nat) (sv : Value), k ≤ N ∧ i = .int .i64 ((k : Int) + 2) ∧ wr.heap[w.heap.size]? = some (.cells #[.pointer (some ⟨d, 0, none⟩), .int .u64 cn, .int .u64 ln, sv, .int .i64 0] 103 (0, 0)) ∧ Byts wr w.heap.size sv (D.bytes 2 k) ∧ Chg (fun _ => False) w wr) (fun i _ => N + 2 - (intOf i).toNat)
        case atStart => exact ⟨0, _, Nat.zero_le _, rfl, L0.out, Byts.nil _ _, X0.out⟩
        case round =>
          obtain ⟨k, sv, hk, rfl, hl, hb, hx⟩ := hrel
          have hkN := HNK.out k
          have hbl := bytes_len D H64.out k 2
          obtain ⟨so, sc, hsv, _⟩ := hb.form
          rw [hbl] at hsv
          subst hsv
          have L5 := Lib.hid hl; have B5 := Lib.hid hb; have X5 := Lib.hid hx; have BL := Lib.hid hbl
          have l2 := cell_of_row wr _ 2 _ _ _ hl
          have l3 := cell_of_row wr _ 3 _ _ _ hl
          clear hl hb hx hbl
          go_wp2_with fail
          refine wp_region_lex (fun w' => w'.cell? ⟨w.heap.size, 2, none⟩ = some (.int .u64 ln) ∧ w'.cell? ⟨w.heap.size, 3, none⟩ = some (.slice so (k * 64) sc)) 99 [] [0, 1, 2, 3, 4, 5, 6, 7, 8, 9, 10, 11] (by kernel_rfl) (by kernel_rfl) ⟨l2, l3⟩ ?_
          clear l2 l3
          iterate 11
            refine' lex_free (v := _) rfl rfl rfl ?_ (fun _ _ _ h => h) ?_
            rotate_left
            · rintro W ⟨hW1, hW2⟩
              go_simp
              with_reducible rfl
            try simp only [Act.put, List.setIfInBounds_toArray, List.set_cons_zero, List.set_cons_succ]
          rw [HWL.out]
          iterate 1
            refine' lex_free (v := _) rfl rfl rfl ?_ (fun _ _ _ h => h) ?_
            rotate_left
            · rintro W ⟨hW1, hW2⟩
              go_simp
              with_reducible rfl
            try simp only [Act.put, List.setIfInBounds_toArray, List.set_cons_zero, List.set_cons_succ]
          refine lex_nil ?_
          by_cases hkl : k < N
          · have hk2 := hkN.2 hkl
            obtain ⟨he1, he2⟩ := HE.out ((k : Int) + 2) (by omega) (by omega)
            have HE1 := Lib.hid he1; have HE2 := Lib.hid he2
            have hl2 := H64.out ((k : Int) + 2)
            have HSN := Lib.hid (show D.bytes 2 (k + 1) = D.bytes 2 k ++ D.now ((k : Int) + 2) by rw [bytes_snoc, Int.add_comm])
            clear he1 he2
            go_wp2_with fail
            refine (read_any d _ D ((k : Int) + 2) _ (HD.out.chg X5.out.drew (fun _ _ h => h))).mono ?_
            rintro e w2 ⟨rfl, x2⟩
            rw [HE1.out, HE2.out]
            unfold secV
            generalize D.now ((k : Int) + 2) = s at *
            have HI := Lib.hid (info_secC hl2)
            have HLS := Lib.hid (show (secC s).length = (secC sec0).toArray.size by simp [hl2, sec0_len])
            have l2 := x2.heap (show wr.drew.heap[w.heap.size]? = _ from L5.out) (fun h => h)
            have L2 := Lib.hid l2; have X2 := Lib.hid (X5.out.drew.trans x2 (fun _ h => .inl h)); have HL2 := Lib.hid hl2
            have B2 := Lib.hid (B5.out.quiet ((Chg.refl _ wr).drew.trans x2 (fun _ h => .inl h)))
            clear x2 l2
            go_wp2_with (first | (refine wpList_alloc_sec rfl rfl ?_) | (refine wpList_store_new rfl 31 _ _ rfl (secC s) _ rfl rfl rfl HLS.out HI.out (secC_one _) ?_))
            obtain ⟨W3, hW3⟩ : ∃ W3, W3 = w2.alloc (.cells (secC s).toArray 31) := ⟨_, rfl⟩
            rw [← hW3]
            have g3 : W3.heap[w2.heap.size]? = some (.cells (secC s).toArray 31 (0, 0)) := by rw [hW3]; exact hal_new
            have x23 : Chg (fun _ => False) w2 W3 := by rw [hW3]; exact (Chg.refl _ _).alloc _
            have l3 := x23.heap L2.out (fun h => h)
            have G3 := Lib.hid g3; have L3 := Lib.hid l3; have X3 := Lib.hid (X2.out.trans x23 (fun _ h => .inl h)); have B3 := Lib.hid (B2.out.quiet x23)
            clear hW3 g3 x23 l3
            have c3 := cell_of_row W3 _ 3 _ _ _ L3.out
            refine wp_region_lex (fun w' => w'.cell? ⟨w.heap.size, 3, none⟩ = some (.slice so (k * 64) sc)) 9 [6, 9] [0, 1, 2, 3, 4, 5, 6, 7, 8, 9] (by kernel_rfl) (by kernel_rfl) c3 ?_
            clear c3
            try simp only [Act.put, List.setIfInBounds_toArray, List.set_cons_zero, List.set_cons_succ]
            iterate 6
              refine' lex_free (v := _) rfl rfl rfl ?_ (fun _ _ _ h => h) ?_
              rotate_left
              · rintro W hW1
                go_simp
                with_reducible rfl
              try simp only [Act.put, List.setIfInBounds_toArray, List.set_cons_zero, List.set_cons_succ]
            refine lex_op rfl rfl rfl (fun K hK => ?_)
            refine wp_byts _ _ rfl w.heap.size (.slice so (k * 64) sc) (D.bytes 2 k) rfl (B3.out.quiet (Chg.refl _ _).drew) (some ⟨w2.heap.size, 0, none⟩) 64 s (by rw [HL2.out]; rfl) (fun h => by cases h) (fun ad had j hj => ?_) (by rw [BL.out, HL2.out]; omega) (by have := X3.out.size; exact this) (fun v4 w4 y4 x4 n4 => ?_)
            · obtain rfl := Option.some.inj had
              rw [Addr.add_mid, Nat.zero_add, cell_of_row W3.drew _ _ _ _ _ G3.out]
              simp [secC]
            rw [← HSN.out] at y4
            have hnl : ∀ g, (Value.slice so (k * 64) sc).ownBlock = some g → g ≠ w.heap.size := fun g hg e => by
              subst e
              obtain ⟨cur, hc⟩ := ownsRow_heap B3.out.row hg
              rw [L3.out] at hc
              simp at hc
            have l4 := x4.heap (show W3.drew.heap[w.heap.size]? = _ from L3.out) (fun h => hnl _ h rfl)
            have x04 : Chg (fun _ => False) w w4 := X3.out.drew.trans x4 (fun g hg => .inr (B3.out.lo g hg))
            obtain ⟨so4, sc4, he4, _⟩ := y4.form
            rw [bytes_len D H64.out] at he4
            subst he4
            have L4 := Lib.hid l4; have X4 := Lib.hid x04; have B4 := Lib.hid y4
            refine hK _ _ (fun _ => cell_of_row w4 _ 3 _ _ _ L4.out) ?_
            clear hK K
            try simp only [Act.put, List.setIfInBounds_toArray, List.set_cons_zero, List.set_cons_succ]
            clear l4 x04 y4 x4 n4 hnl
            iterate 2
              refine' lex_free (v := _) rfl rfl rfl ?_ (fun _ _ _ h => h) ?_
              rotate_left
              · rintro W hW1
                go_simp
                with_reducible rfl
              try simp only [Act.put, List.setIfInBounds_toArray, List.set_cons_zero, List.set_cons_succ]
            have c3 := cell_of_row w4 _ 3 _ _ _ L4.out
            have ff : ∀ o, w4.frozen? ⟨w.heap.size, o, none⟩ = false := fun o => frozen_of_row w4 _ o _ _ L4.out
            refine lex_op rfl rfl rfl (fun K hK => ?_)
            go_simp
            refine hK _ _ (fun h => absurd rfl h) ?_
            clear hK K
            try simp only [Act.put, List.setIfInBounds_toArray, List.set_cons_zero, List.set_cons_succ]
            clear c3 ff
            refine lex_nil ?_
            go_wp2
            go_roundw
            case rel =>
              refine ⟨k + 1, _, by omega, by go_num, ?_, B4.out.chg ((Chg.refl (fun k => k = w.heap.size) w4).setCell (p := ⟨w.heap.size, 3, none⟩) (.inl rfl) _) (fun g hg e => ?_), (((X4.out.mono (fun _ h => h.elim)).setCell (F := fun x => w.heap.size ≤ x) (p := ⟨w.heap.size, 3, none⟩) (.inl (Nat.le_refl _)) _)).mono (fun x hx => .inr hx)⟩
              · rw [hset_eq L4.out]; rfl
              · subst e
                obtain ⟨cur, hc⟩ := ownsRow_heap B4.out.row hg
                rw [L4.out] at hc
                simp at hc
            case measure => simp [intOf]; omega
          · obtain rfl : k = N := by omega
            have hlnt : ln.toNat ≤ k * 64 := by rw [HNE.out]; unfold upTo; omega
            have hcap := B5.out.capLe
            have l2 := cell_of_row wr _ 2 _ _ _ L5.out
            have l3 := cell_of_row wr _ 3 _ _ _ L5.out
            have ff : ∀ o, wr.drew.drew.frozen? ⟨w.heap.size, o, none⟩ = false := fun o => frozen_of_row wr _ o _ _ L5.out
            obtain ⟨ln', rfl⟩ : ∃ ln' : Nat, ln = ln' := ⟨ln.toNat, by omega⟩
            rw [Int.toNat_natCast] at hlnt
            have hle1 : ln' ≤ sc := by omega
            go_wp2_with fail
            refine wp_region_lex (fun w' => w'.cell? ⟨w.heap.size, 2, none⟩ = some (.int .u64 ln') ∧ w'.cell? ⟨w.heap.size, 3, none⟩ = some (.slice so (k * 64) sc)) 13 [13] [0, 1, 2, 3, 4, 5, 6, 7, 8, 9, 10, 11, 12, 13] (by kernel_rfl) (by kernel_rfl) ⟨l2, l3⟩ ?_
            have l3' : wr.drew.drew.cell? ⟨w.heap.size, 3, none⟩ = some (.slice so (k * 64) sc) := l3
            clear l2 l3
            iterate 10
              refine' lex_free (v := _) rfl rfl rfl ?_ (fun _ _ _ h => h) ?_
              rotate_left
              · rintro W ⟨hW1, hW2⟩
                go_simp
                with_reducible rfl
              try simp only [Act.put, List.setIfInBounds_toArray, List.set_cons_zero, List.set_cons_succ]
            refine lex_free (v := .slice so ln' sc) rfl rfl rfl (fun W ⟨hW1, hW2⟩ => by go_simp) (fun _ _ _ h => h) ?_
            try simp only [Act.put, List.setIfInBounds_toArray, List.set_cons_zero, List.set_cons_succ]
            iterate 2
              refine' lex_free (v := _) rfl rfl rfl ?_ (fun _ _ _ h => h) ?_
              rotate_left
              · rintro W ⟨hW1, hW2⟩
                go_simp
                with_reducible rfl
              try simp only [Act.put, List.setIfInBounds_toArray, List.set_cons_zero, List.set_cons_succ]
            refine lex_op rfl rfl rfl (fun K hK => ?_)
            go_simp
            refine hK _ _ (fun h => absurd rfl h) ?_
            clear hK K
            try simp only [Act.put, List.setIfInBounds_toArray, List.set_cons_zero, List.set_cons_succ]
            refine lex_nil ?_
            clear l3' ff
            obtain ⟨W5, hW5⟩ : ∃ W5, W5 = (wr.setCell ⟨w.heap.size, 3, none⟩ (.slice so ln' sc)).drew.drew := ⟨_, rfl⟩
            rw [← hW5]
            have l5 : W5.heap[w.heap.size]? = some (.cells #[.pointer (some ⟨d, 0, none⟩), .int .u64 cn, .int .u64 ln', .slice so ln' sc, .int .i64 0] 103 (0, 0)) := by
              rw [hW5]; show (World.setCell _ _ _).heap[_]? = _; rw [hset_eq L5.out]; rfl
            have b5 : Byts W5 w.heap.size (.slice so ln' sc) (D.stream ln') := by
              have h1 := B5.out.take ln' (by rw [BL.out]; exact hlnt)
              have e : D.stream ln' = (D.bytes 2 k).take ln' := by rw [HNE.out]; rfl
              rw [e, hW5]
              refine h1.chg (((Chg.refl (fun k => k = w.heap.size) wr).setCell (p := ⟨w.heap.size, 3, none⟩) (.inl rfl) _).drew.drew) (fun g hg e => ?_)
              subst e
              obtain ⟨cur, hc⟩ := ownsRow_heap h1.row hg
              rw [L5.out] at hc
              simp at hc
            have x5 : Chg (fun _ => False) w W5 := by
              rw [hW5]
              exact (((X5.out.mono (fun _ h => h.elim)).setCell (F := fun x => w.heap.size ≤ x) (p := ⟨w.heap.size, 3, none⟩) (.inl (Nat.le_refl _)) _).drew.drew).mono (fun x hx => .inr hx)
            have hlen : (D.stream ln').length = ln' := by have := b5.get.1; omega
            have hbs : Bytes (D.stream ln') := fun b hb => bytes_by D HB.out _ _ b (List.mem_of_mem_take hb)
            have LL5 := Lib.hid l5; have BB5 := Lib.hid b5; have XX5 := Lib.hid x5; have HLEN := Lib.hid hlen; have HBS := Lib.hid hbs
            have m3 := cell_of_row W5 _ 3 _ _ _ l5
            clear hW5 l5 b5 x5 hlen hbs
            have hfin : ∀ r, recsR (D.stream ln') = r → openR D = (match r with | none => ((6 : Int), none) | some rs => (0, some (({ cnt := cn, len := ln', st := D.stream ln', wait := 0 } : Lg), rs))) := fun r hr => by
              rw [HO2.out]; unfold openFin; rw [Int.toNat_natCast, hr]; cases r <;> rfl
            have HF := Lib.hid hfin
            clear hfin
            go_wp2_with fail
            refine (records_any (D.stream ln') so ln' sc W5 (BB5.out.read HBS.out (fun _ _ h => h)) hle1 hcap.2.1 (by rw [HLEN.out]; omega)).mono ?_
            rintro e w6 ⟨hp, x6⟩
            have l6 := x6.heap LL5.out (fun h => h)
            have b6 := BB5.out.quiet x6
            have X6 := Lib.hid (XX5.out.trans x6 (fun _ h => .inl h)); have L6 := Lib.hid l6; have B6 := Lib.hid b6
            have z56 := x6.size
            clear x6 l6 b6 m3
            generalize hr : recsR (D.stream ln') = r at hp
            have HF2 := Lib.hid (HF.out r hr)
            clear hr
            cases r with
            | none =>
              obtain rfl := (show e = .returned (.tuple #[.slice none 0 0, .bool false]) from hp)
              go_wp2
              go_ret3
              rw [HF2.out]
              exact ⟨rfl, X6.out⟩
            | some rs =>
              obtain ⟨v6, rfl, hrs, hcp⟩ := hp
              have HRS := Lib.hid hrs; have HCP := Lib.hid hcp
              clear hrs hcp
              go_wp2
              go_ret3
              rw [HF2.out]
              refine ⟨⟨w.heap.size, v6, fun k => k = w.heap.size ∨ (Value.slice so ln' sc).ownBlock = some k, rfl, ⟨_, L6.out, ⟨?_, fun g _ => Nat.zero_le g⟩, .inl rfl, fun g hg => .inr hg, ?_⟩, ?_, ?_, HCP.out⟩, X6.out⟩
              · exact B6.out.row
              · refine ⟨hko.1.1, hko.1.2, hko.2.1, by show ((ln' : Nat) : Int) ≤ _; rw [HLEN.out]; exact Int.le_refl _, by show (D.stream ln').length ≤ _; rw [HLEN.out]; omega, HBS.out, Int.le_refl _, by show 4 * (0 : Int) ≤ _; omega⟩
              · intro x hx
                rcases hx with h | h
                · subst h; exact ⟨Nat.le_refl _, lt_of_heap L6.out⟩
                · exact ⟨B6.out.lo x h, B6.out.lt h⟩
              · refine HRS.out.weaken (fun x hx h => ?_)
                rcases h with h | h | h
                · have := XX5.out.size; omega
                · subst h; exact lt_of_heap LL5.out
                · exact BB5.out.lt h
theorem open_any (d : Nat) (A : Nat → Prop) (D : Dsk) (w : World) (hd : DiskAt w d A D) (hby : ∀ k, Bytes (D.now k)) :
    Calls Try.prog 31 #[.pointer (some ⟨d, 0, none⟩)] w fun e w' => OpenPost w d (openR D) e w' ∧ Chg (fun _ => False) w w' := by
  by_cases hs : D.size < 3
  · refine (open_small d A D w hd hs).mono ?_
    rintro e w' ⟨rfl, rfl⟩
    have : openR D = (1, none) := by unfold openR; rw [if_pos hs]
    rw [this]
    exact ⟨rfl, Chg.refl _ _⟩
  · cases hdn : D.down with
    | true =>
      refine (open_down d A D w hd (by omega) hdn).mono ?_
      rintro e w' ⟨rfl, x⟩
      have : openR D = (24, none) := by unfold openR; rw [if_neg hs, if_pos hdn]
      rw [this]
      exact ⟨rfl, x⟩
    | false => exact open_up d A D w hd (by omega) hdn hby
end Go.Proofs.Ytihpobpkhhkejaa
