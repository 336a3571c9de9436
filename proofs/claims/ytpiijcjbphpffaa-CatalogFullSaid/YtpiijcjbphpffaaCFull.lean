/-
  CatalogFull: of every two numbers. Condition: the numbers are of eight bits.
-/
import Derived.Test.YtpiijcjbphpffaaCFullL
import Derived.IntWalk
set_option autoImplicit false
namespace Go.Proofs.Ytpiijcjbphpffaa
open Go Go.RowKit

theorem chr_nat (i : Nat) (hi : i < 100) : (chr i).toNat = 97 + i := by
  unfold chr
  simp; omega
theorem str1_of (w : World) (i : Nat) (hi : i < 100) : (convert 28 9 (.slice (some ⟨w.heap.size, 0, none⟩) 1 1)).run Try.prog (w.alloc (.cells #[.int .u8 (97 + (i : Int))] 5)) = .ok (.string ⟨#[chr i]⟩) (w.alloc (.cells #[.int .u8 (97 + (i : Int))] 5)) := by
  have h := run_convert_bytes_back (P := Try.prog) (w.alloc (.cells #[.int .u8 (97 + (i : Int))] 5)) 28 9 5 ⟨w.heap.size, 0, none⟩ 1 [chr i] Try.underlying28 Try.underlying5 Try.underlying9 (fun j hj => by
    have hj0 : j = 0 := by simp at hj; omega
    subst hj0
    have := cell_of_row (w.alloc (.cells #[.int .u8 (97 + (i : Int))] 5)) w.heap.size 0 _ _ _ hal_new
    simp only [Addr.add_mid]
    rw [this]
    have hc := chr_nat i hi
    simp [hc])
  simpa using h
theorem str2_of (w : World) (a : UInt8) (x : Int) (hx : x = (a.toNat : Int)) (i : Nat) (hi : i < 100) : (convert 28 9 (.slice (some ⟨w.heap.size, 0, none⟩) 2 2)).run Try.prog (w.alloc (.cells #[.int .u8 x, .int .u8 (97 + (i : Int))] 5)) = .ok (.string ⟨#[a, chr i]⟩) (w.alloc (.cells #[.int .u8 x, .int .u8 (97 + (i : Int))] 5)) := by
  subst hx
  have h := run_convert_bytes_back (P := Try.prog) (w.alloc (.cells #[.int .u8 (a.toNat : Int), .int .u8 (97 + (i : Int))] 5)) 28 9 5 ⟨w.heap.size, 0, none⟩ 2 [a, chr i] Try.underlying28 Try.underlying5 Try.underlying9 (fun j hj => by
    have hc := chr_nat i hi
    have e0 := cell_of_row (w.alloc (.cells #[.int .u8 (a.toNat : Int), .int .u8 (97 + (i : Int))] 5)) w.heap.size 0 _ _ _ hal_new
    have e1 := cell_of_row (w.alloc (.cells #[.int .u8 (a.toNat : Int), .int .u8 (97 + (i : Int))] 5)) w.heap.size 1 _ _ _ hal_new
    simp only [Addr.add_mid]
    have hj2 : j = 0 ∨ j = 1 := by simp at hj; omega
    rcases hj2 with rfl | rfl
    · rw [e0]; simp
    · rw [e1]; simp [hc])
  simpa using h
theorem str2_at (W : World) (b : Nat) (a : UInt8) (x y : Int) (i : Nat) (hx : x = (a.toNat : Int)) (hy : y = 97 + (i : Int)) (hi : i < 100) (hW : W.heap[b]? = some (.cells #[.int .u8 x, .int .u8 y] 5 (0, 0))) :
    (convert 28 9 (.slice (some ⟨b, 0, none⟩) 2 2)).run Try.prog W = .ok (.string ⟨#[a, chr i]⟩) W := by
  subst hx
  subst hy
  have h := run_convert_bytes_back (P := Try.prog) W 28 9 5 ⟨b, 0, none⟩ 2 [a, chr i] Try.underlying28 Try.underlying5 Try.underlying9 (fun j hj => by
    have hc := chr_nat i hi
    have e0 := cell_of_row W b 0 _ _ _ hW
    have e1 := cell_of_row W b 1 _ _ _ hW
    simp only [Addr.add_mid]
    have hj2 : j = 0 ∨ j = 1 := by simp at hj; omega
    rcases hj2 with rfl | rfl
    · rw [e0]; simp
    · rw [e1]; simp [hc])
  simpa using h
theorem colsF_take (k : Nat) {m : Nat} (hm : m ≤ 16) : ∃ r, colCells (colsF k 16) = colCells (colsF k m) ++ r := by
  obtain ⟨l, hl⟩ : ∃ l, 16 = m + l := ⟨16 - m, by omega⟩
  rw [show colsF k 16 = colsF k (m + l) by rw [← hl]]
  refine ⟨colCells ((List.range l).map fun i => colF k (m + i)), ?_⟩
  unfold colCells colsF
  rw [← List.flatMap_append, List.range_add, List.map_append, List.map_map]
  rfl
theorem ColsAt.pre {w : World} {F : Nat → Prop} {ao : Option Addr} {cap k m : Nat} (h : ColsAt w F (.slice ao 16 cap) (colsF k 16)) (hm : m ≤ 16) : ColsAt w F (.slice ao m cap) (colsF k m) := by
  unfold ColsAt at h ⊢
  rw [colsF_len] at h ⊢
  obtain ⟨ao', cap', he, h⟩ := h
  simp only [Value.slice.injEq] at he
  obtain ⟨rfl, _, rfl⟩ := he
  refine ⟨ao, cap, rfl, fun _ => ?_⟩
  obtain ⟨b, o, h1, h2, h3, h4⟩ := h (by omega)
  obtain ⟨r, hr⟩ := colsF_take k hm
  rw [hr] at h4
  exact ⟨b, o, h1, h2, h3, range_left h4⟩
set_option maxRecDepth 100000 in
set_option maxHeartbeats 4000000 in
theorem full_any (n u : Int) (w : World) (hn : 0 ≤ n ∧ n ≤ 255) (hu : 0 ≤ u ∧ u ≤ 255) : Calls Try.prog 3 #[.int .u8 n, .int .u8 u] w fun e w' => e = .returned (.bool true) ∧ Chg (fun _ => False) w w' := by
  obtain ⟨n0, n1⟩ := hn
  obtain ⟨u0, u1⟩ := hu
  obtain ⟨k, hk⟩ : ∃ k : Nat, u % 17 = k := ⟨(u % 17).toNat, by omega⟩
  have HK := Lib.hid hk
  have hk17 : k < 17 := by omega
  clear hk
  go_enter Try.func3, Try.ntmps3
  go_wp2_with fail
  refine (awake_any w).mono ?_
  rintro e w0 ⟨rfl, x0⟩
  have X0 := Lib.hid x0
  clear x0
  go_wp2_with fail
  refine (cnew_any w0).mono ?_
  rintro e w1 ⟨r, rfl, h1, x1⟩
  have H1 := Lib.hid h1; have X1 := Lib.hid (X0.out.trans x1 (fun _ h => h.elim))
  have Z01 : Hid (w0.heap.size ≤ w1.heap.size) := Lib.hid x1.size
  clear h1 x1
  go_wp2
  rw [HK.out]
  obtain ⟨W2, hW2⟩ : ∃ W2, W2 = w1.alloc (.cells #[.string ⟨#[116]⟩, .slice none 0 0] 27) := ⟨_, rfl⟩
  rw [← hW2]
  have b2 : W2.heap[w1.heap.size]? = some (.cells #[.string ⟨#[116]⟩, .slice none 0 0] 27 (0, 0)) := by subst hW2; exact hal_new
  have x2 : Chg (fun _ => False) w1 W2 := by subst hW2; exact (Chg.refl _ _).alloc _
  have z2 : W2.heap.size = w1.heap.size + 1 := by subst hW2; simp
  have B2 := Lib.hid b2; have X2 := Lib.hid x2; have Z2 := Lib.hid z2
  clear hW2 b2 x2 z2
  go_loopw [8] (fun s wr => ∃ (i : Nat) (ao : Option Addr) (cap : Nat), i ≤ 16 ∧ s = .int .i64 i ∧ Hid (wr.heap[w1.heap.size]? = some (.cells #[.string ⟨#[116]⟩, .slice ao i cap] 27 (0, 0))) ∧ Hid (Own 30 4 wr (w1.heap.size + 1) (.slice ao i cap) i (colCells (colsF k i))) ∧ Hid (Chg (fun g => g = w1.heap.size) W2 wr)) (fun s _ => 16 - (intOf s).toNat)
  case atStart => exact ⟨0, none, 0, Nat.zero_le _, rfl, B2, Lib.hid (Own.nil _ _ _ _), Lib.hid (Chg.refl _ _)⟩
  case round =>
    obtain ⟨i, ao, cap, hi, rfl, HB, HO, HX⟩ := hrel
    have c0 := cell_of_row wr _ 0 _ _ _ HB.out
    have c1 := cell_of_row wr _ 1 _ _ _ HB.out
    by_cases hlt : i < 16
    · have hcv := str1_of wr i (by omega)
      have hO1 := Lib.hid (HO.out.quiet (((Chg.refl (fun _ => False) wr).alloc (.cells #[.int .u8 (97 + (i : Int))] 5)).alloc (.cells (colF k i).cells.toArray 30)))
      have hwr := HX.out.size
      have hz := Z2.out
      have hlo := fun g (hg : (Value.slice ao i cap).ownBlock = some g) => HO.out.lo g hg
      go_wp2_with (at_builtin; refine own_app col_ok rfl _ _ rfl (w1.heap.size + 1) _ i (colCells (colsF k i)) rfl hO1.out (fun _ => True) _ 1 (colF k i).cells rfl (row_one (hal_new' (by simp)) trivial) rfl ?_ ?_ ?_ ?_ ?_)
      · intro y hy
        exact colCells_one [colF k i] y (by simpa [colCells] using hy)
      · unfold maxLen; omega
      · omega
      · simp; omega
      · intro v' w5 r5 x5 hat
        obtain ⟨ao5, cap5, rfl, _⟩ := r5.form
        have x45 := (((Chg.refl (fun g => (Value.slice ao i cap).ownBlock = some g) wr).alloc (.cells #[.int .u8 (97 + (i : Int))] 5)).alloc (.cells (colF k i).cells.toArray 30)).trans x5 (fun g h => .inl h)
        have b5 := x45.heap HB.out (fun h => by have := hlo _ h; omega)
        have d1 := cell_of_row w5 _ 1 _ _ _ b5
        have f1 := frozen_of_row w5 w1.heap.size 1 _ _ b5
        have B5 := Lib.hid b5
        have O5 : Hid (Own 30 4 (w5.setCell ⟨w1.heap.size, 1, none⟩ (.slice ao5 (i + 1) cap5)) (w1.heap.size + 1) (.slice ao5 (i + 1) cap5) (i + 1) (colCells (colsF k (i + 1)))) := Lib.hid (by
          have e : colCells (colsF k (i + 1)) = colCells (colsF k i) ++ (colF k i).cells := by
            unfold colCells colsF
            rw [List.range_succ, List.map_append, List.flatMap_append]
            simp
          rw [e]
          exact r5.chg ((Chg.refl (fun g => g = w1.heap.size) w5).setCell (p := ⟨w1.heap.size, 1, none⟩) (.inl rfl) _) (fun g hg h => by have := r5.lo g hg; omega))
        have X5 := Lib.hid ((((HX.out.mono (G := fun g => g = w1.heap.size ∨ W2.heap.size ≤ g) (fun _ h => .inl (.inl h))).trans x45 (fun g h => .inl (.inr (by have := hlo _ h; omega)))).setCell (p := ⟨w1.heap.size, 1, none⟩) (.inl (.inl rfl)) (.slice ao5 (i + 1) cap5)).mono (G := fun g => g = w1.heap.size) (fun g h => h.imp id id))
        clear r5 x5 hat x45 b5 c0 c1 hcv
        go_wp2
        go_roundw
        case rel => exact ⟨i + 1, ao5, cap5, by omega, by go_num, Lib.hid (by rw [hset_eq B5.out]; rfl), O5, X5⟩
        case measure => simp [intOf]; omega
    · obtain rfl : i = 16 := by omega
      obtain ⟨wa, rfl⟩ : ∃ wa : World, wa = wr := ⟨_, rfl⟩
      obtain ⟨F, hF⟩ : ∃ F : Nat → Prop, F = fun g => (w0.heap.size ≤ g ∧ g < w1.heap.size) ∨ wa.heap.size ≤ g := ⟨_, rfl⟩
      have HF := Lib.hid hF
      have hz2 := Z2.out
      have hza := HX.out.size
      have ha : CatAt wa r F Cat.empty := ((CatAt.quiet H1.out X2.out).chg HX.out (fun g hg h => by rcases hg with hg | hg; exact hg.elim; have := hg.2; omega)).mono (fun g hg _ => by
        rw [hF]
        rcases hg with hg | hg
        · exact hg.elim
        · exact .inl hg)
      have hext : ∀ (W W' : World) (C : Cat), wa.heap.size ≤ W.heap.size → CatAt W' r (Ext F W W') C → CatAt W' r F C := fun W W' C hz h => h.mono (fun g hg _ => by
        rcases hg with h | h
        · exact h
        · rw [hF]; exact .inr (by have := h.1; omega))
      have hcol : ∀ W, Chg F wa W → ColsAt W (fun g => w1.heap.size < g ∧ g < wa.heap.size) (.slice ao 16 cap) (colsF k 16) := fun W hW => by
        have := ((HO.out.read.mono (G := fun g => w1.heap.size < g ∧ g < wa.heap.size) (fun g hg hl => ⟨by omega, hl⟩)).chg hW (fun g hg h => by rw [hF] at h; rcases h with h | h <;> omega))
        unfold ColsAt
        rw [colsF_len]
        exact this
      have hvar : ∀ W, Chg F wa W → W.heap[w1.heap.size]? = some (.cells #[.string ⟨#[116]⟩, .slice ao 16 cap] 27 (0, 0)) := fun W hW => hW.heap HB.out (fun h => by rw [hF] at h; rcases h with h | h <;> omega)
      have hend : ∀ W, Chg F wa W → Chg (fun _ => False) w W := fun W hW => (((((X1.out.trans X2.out (fun _ h => h.elim)).mono (G := fun g => w.heap.size ≤ g) (fun _ h => h.elim)).trans HX.out (fun g h => .inr (by have := X1.out.size; omega))).trans hW (fun g h => .inr (by rw [hF] at h; have := X1.out.size; have := X0.out.size; rcases h with h | h <;> omega)))).mono (fun g hg => .inr hg)
      have HA := Lib.hid ha; have HE := Lib.hid hext; have HCOL := Lib.hid hcol; have HVAR := Lib.hid hvar; have HEND := Lib.hid hend
      clear ha hext hcol hvar hend hF hza
      go_wp2_with fail
      refine (addT_any r F _ Cat.empty (tab0 k) _ wa HA.out (HCOL.out _ (Chg.refl _ _)) (by rw [show (tab0 k).cols = colsF k 16 from rfl, colsF_len]; omega) (by show nT.size ≤ 9223372036854775807; decide) (fun c hc => by
        obtain ⟨j, _, rfl⟩ := List.mem_map.1 hc
        show (1 : Nat) ≤ _
        omega)).mono ?_
      rw [add0_F, addC_F]
      rintro e w5 ⟨rfl, h5, x5⟩
      have H5 := Lib.hid (HE.out _ _ _ (Nat.le_refl _) h5); have X5 := Lib.hid x5
      clear h5 x5 c0 c1
      go_wp2
      go_loopw [9] (fun s wr => ∃ i : Nat, i ≤ 20 ∧ s = .int .i64 i ∧ Hid (CatAt wr r F (catI k i)) ∧ Hid (Chg F wa wr)) (fun s _ => 20 - (intOf s).toNat)
      case atStart => exact ⟨0, Nat.zero_le _, rfl, H5, X5⟩
      case round =>
        obtain ⟨i, hi, rfl, HQ, HXQ⟩ := hrel
        by_cases hi20 : i < 20
        · have hcv := str2_of wr 105 105 (by decide) i (by omega)
          have hb : ((i : Int) % 2 == 0) = decide (i % 2 = 0) := by
            rw [Bool.eq_iff_iff]
            simp
            omega
          have HB2 := Lib.hid hb
          clear hb
          go_wp2_with fail
          rw [HB2.out]
          refine (addI_any r F (catI k i) (ixN i) nT nP (decide (i % 2 = 0)) _ (HQ.out.quiet ((Chg.refl _ _).alloc _)) (by show 2 ≤ _; omega)).mono ?_
          rw [addIR_F hk17 hi20, addI_F hk17 hi20]
          by_cases hki : k + i < 16
          · rw [if_pos hki]
            rintro e w6 ⟨rfl, h6, x6⟩
            have H6 := Lib.hid h6
            have X6 := Lib.hid (((HXQ.out.alloc (.cells #[.int .u8 105, .int .u8 (97 + (i : Int))] 5)).trans x6 (fun _ h => .inl h)))
            have hkz : (k : Int) + i < 16 := by omega
            clear h6 x6 hcv
            go_wp2
            go_roundw
            case rel => exact ⟨i + 1, by omega, by go_num, H6, X6⟩
            case measure => simp [intOf]; omega
          · rw [if_neg hki]
            rintro e w6 ⟨rfl, h6, x6⟩
            have H6 := Lib.hid h6
            have X6 := Lib.hid (((HXQ.out.alloc (.cells #[.int .u8 105, .int .u8 (97 + (i : Int))] 5)).trans x6 (fun _ h => .inl h)))
            have hkz : ¬ (k : Int) + i < 16 := by omega
            have hkd : decide ((k : Int) + i < 16) = false := decide_eq_false hkz
            clear h6 x6 hcv
            go_wp2
            go_roundw
            case rel => exact ⟨i + 1, by omega, by go_num, H6, X6⟩
            case measure => simp [intOf]; omega
        · have HI := Lib.hid (show i = 20 by omega)
          obtain ⟨wb, rfl⟩ : ∃ wb : World, wb = wr := ⟨_, rfl⟩
          obtain ⟨m, hm⟩ : ∃ m : Nat, 1 + n % 16 = m := ⟨(1 + n % 16).toNat, by omega⟩
          have hm1 : 1 ≤ m := by omega
          have hm2 : m ≤ 16 := by omega
          have HM := Lib.hid hm
          clear hm
          have HQ0 : Hid (CatAt wb r F (catT k m 0)) := Lib.hid (by have := HQ.out; rw [HI.out, catT_zero k m hk17] at this; exact this)
          go_wp2
          go_loopw [11] (fun s wr => ∃ j : Nat, j ≤ 19 ∧ s = .int .i64 (j + 1 : Nat) ∧ Hid (CatAt wr r F (catT k m j)) ∧ Hid (Chg F wa wr)) (fun s _ => 20 - (intOf s).toNat)
          case atStart => exact ⟨0, Nat.zero_le _, rfl, HQ0, HXQ⟩
          case round =>
            obtain ⟨j, hj, rfl, HP, HXP⟩ := hrel
            by_cases hj19 : j < 19
            · have hlt : ((j + 1 : Nat) : Int) < 20 := by omega
              go_wp2_with fail
              have hS : ∀ W, Chg F wa W → W.cell? ⟨w1.heap.size, 1, none⟩ = some (.slice ao 16 cap) := fun W hW => cell_of_row W _ 1 _ _ _ (HVAR.out W hW)
              have HS := Lib.hid hS
              clear hS
              have hcap : 16 ≤ cap := by
                rcases HO.out.row.2 with ⟨h, h2⟩ | ⟨g, cap', cur, h, _, _, h2, _⟩
                · omega
                · simp only [Value.slice.injEq] at h
                  rw [h.2.2]; exact h2
              have hcm : (m : Int) ≤ cap := by omega
              have e1 : IntKind.i64.wrap (97 + ((j : Int) + 1)) = 97 + ((j : Int) + 1) := IntWalk.i64_in _ (by omega)
              have e2 : IntKind.u8.wrap (97 + ((j : Int) + 1)) = 97 + ((j : Int) + 1) := by simp [IntKind.wrap, IntKind.bits, IntKind.signed]; omega
              have e3 : n.tmod 16 = (m : Int) - 1 := by rw [Int.tmod_eq_emod_of_nonneg n0]; have := HM.out; omega
              have e4 : IntKind.i64.wrap ((m : Int) - 1) = (m : Int) - 1 := IntWalk.i64_in _ (by omega)
              have e5 : IntKind.i64.wrap (1 + ((m : Int) - 1)) = m := by rw [IntWalk.i64_in _ (by omega)]; omega
              refine wp_region_lex (fun w' => w'.cell? ⟨w1.heap.size, 1, none⟩ = some (.slice ao 16 cap)) 15 [4, 5, 14, 15] [0, 1, 2, 3, 6, 7, 8, 9, 10, 11, 12, 4, 5, 13, 14, 15] (by kernel_rfl) (by kernel_rfl) (HS.out _ HXP.out.drew) ?_
              iterate 11
                refine' lex_free (v := _) rfl rfl rfl ?_ (fun _ _ _ h => h) ?_
                rotate_left
                · rintro W hW1
                  go_simp
                  with_reducible rfl
                try simp only [Act.put, List.setIfInBounds_toArray, List.set_cons_zero, List.set_cons_succ]
              clear e1 e2 e3 e4 e5
              refine lex_op rfl rfl rfl (fun K hK => ?_)
              go_simp
              have hq : ((wr.alloc (.cells #[.int .u8 116, .int .u8 (97 + ((j : Int) + 1))] 5)).drew).heap[wr.heap.size]? = some (.cells #[.int .u8 116, .int .u8 (97 + ((j : Int) + 1))] 5 (0, 0)) := hal_new
              have hcv := str2_at ((wr.alloc (.cells #[.int .u8 116, .int .u8 (97 + ((j : Int) + 1))] 5)).drew) wr.heap.size 116 116 (97 + ((j : Int) + 1)) (j + 1) (by decide) (by omega) (by omega) hq
              clear hq
              refine hK _ _ (fun _ => HS.out _ (HXP.out.drew.alloc _)) ?_
              clear hK K
              try simp only [Act.put, List.setIfInBounds_toArray, List.set_cons_zero, List.set_cons_succ]
              refine lex_op rfl rfl rfl (fun K hK => ?_)
              go_simp
              refine hK _ _ (fun _ => HS.out _ (HXP.out.drew.alloc _)) ?_
              clear hK K
              try simp only [Act.put, List.setIfInBounds_toArray, List.set_cons_zero, List.set_cons_succ]
              clear hcv
              iterate 1
                refine' lex_free (v := _) rfl rfl rfl ?_ (fun _ _ _ h => h) ?_
                rotate_left
                · rintro W hW1
                  go_simp
                  with_reducible rfl
                try simp only [Act.put, List.setIfInBounds_toArray, List.set_cons_zero, List.set_cons_succ]
              refine lex_op rfl rfl rfl (fun K hK => ?_)
              go_simp
              refine (addT_any r F _ (catT k m j) (tbF k m j) (.slice ao m cap) _ (HP.out.quiet ((Chg.refl _ _).drew.alloc _)) (ColsAt.pre (HCOL.out _ (HXP.out.drew.alloc _)) hm2) (by show (colsF k m).length ≤ _; rw [colsF_len]; omega) (by show 2 ≤ _; omega) (fun c hc => by
                obtain ⟨l, _, rfl⟩ := List.mem_map.1 hc
                show (1 : Nat) ≤ _
                omega)).mono ?_
              rw [addTR_F hm1 hm2 hj19, addT_F hm1 hm2 hj19]
              by_cases hj16 : j + 1 < 16
              · rw [if_pos hj16]
                rintro e w6 ⟨rfl, h6, x6⟩
                have X6 := Lib.hid ((HXP.out.drew.alloc (.cells #[.int .u8 116, .int .u8 (97 + ((j : Int) + 1))] 5)).trans x6 (fun _ h => .inl h))
                have H6 := Lib.hid (HE.out _ _ _ (HXP.out.drew.alloc (.cells #[.int .u8 116, .int .u8 (97 + ((j : Int) + 1))] 5)).size h6)
                clear h6 x6
                refine hK _ _ (fun _ => HS.out _ X6.out) ?_
                clear hK K
                try simp only [Act.put, List.setIfInBounds_toArray, List.set_cons_zero, List.set_cons_succ]
                refine lex_op rfl rfl rfl (fun K hK => ?_)
                go_simp
                refine hK _ _ (fun h => absurd rfl h) ?_
                clear hK K
                try simp only [Act.put, List.setIfInBounds_toArray, List.set_cons_zero, List.set_cons_succ]
                refine lex_nil ?_
                go_wp2
                go_roundw
                case rel => exact ⟨j + 1, by omega, by go_num, H6, X6⟩
                case measure => simp [intOf]; omega
              · rw [if_neg hj16]
                rintro e w6 ⟨rfl, h6, x6⟩
                have X6 := Lib.hid ((HXP.out.drew.alloc (.cells #[.int .u8 116, .int .u8 (97 + ((j : Int) + 1))] 5)).trans x6 (fun _ h => .inl h))
                have H6 := Lib.hid (HE.out _ _ _ (HXP.out.drew.alloc (.cells #[.int .u8 116, .int .u8 (97 + ((j : Int) + 1))] 5)).size h6)
                clear h6 x6
                refine hK _ _ (fun _ => HS.out _ X6.out) ?_
                clear hK K
                try simp only [Act.put, List.setIfInBounds_toArray, List.set_cons_zero, List.set_cons_succ]
                refine lex_op rfl rfl rfl (fun K hK => ?_)
                go_simp
                refine hK _ _ (fun h => absurd rfl h) ?_
                clear hK K
                try simp only [Act.put, List.setIfInBounds_toArray, List.set_cons_zero, List.set_cons_succ]
                refine lex_nil ?_
                go_wp2
                go_roundw
                case rel => exact ⟨j + 1, by omega, by go_num, H6, X6⟩
                case measure => simp [intOf]; omega
            · obtain rfl : j = 19 := by omega
              go_wp2_with fail
              refine (tables_any r F (catT k m 19) wr HP.out).mono ?_
              rintro e w6 ⟨_, rfl, ⟨us, _, a6, k6, rfl, _⟩, x6⟩
              rw [tables_F]
              have X6 := Lib.hid x6
              clear x6
              go_wp2_with fail
              refine (indexes_any r F (catT k m 19) nT w6 (HP.out.quiet X6.out)).mono ?_
              rintro e w7 ⟨_, rfl, ⟨a7, k7, rfl, _⟩, x7⟩
              rw [last_F m hk17]
              have X7 := Lib.hid x7
              clear x7
              go_wp2
              go_ret
              exact ⟨rfl, HEND.out _ (HXP.out.trans ((X6.out.trans X7.out (fun _ h => h.elim)).mono (G := F) (fun _ h => h.elim)) (fun _ h => .inl h))⟩
end Go.Proofs.Ytpiijcjbphpffaa
