/-
  The document's reading of a table's row. Condition: the row is as long as may be read.
-/
import Derived.Test.YtpiijcjbphpffaaCRReadL
import Derived.Test.YtpiijcjbphpffaaCRead
import Derived.IntWalk
import Derived.Deep.DeepCutAuto
set_option autoImplicit false
namespace Go.Proofs.Ytpiijcjbphpffaa
open Go Go.RowKit
attribute [local go_sem] field_val0 field_val1 field_val2 field_tab0 field_tab1

def RTabPost (row : List Val) (w : World) (e : Ending) (w' : World) : Prop :=
  ∃ n ao l c, e = .returned (.tuple #[.agg #[.string n, .slice ao l c], .bool (rTab row).isSome]) ∧ Chg (fun _ => False) w w' ∧ ∀ t, rTab row = some t → n = t.name ∧ ColsAt w' (fun g => w.heap.size ≤ g) (.slice ao l c) t.cols
theorem is_any (v : Val) (k : Int) (w : World) (hk : k = 1 ∨ k = 2 ∨ k = 3) : Calls Try.prog 36 #[.agg #[.int .i64 v.kind, .int .i64 v.num, .string v.str], .int .i64 k] w fun e w' => e = .returned (.bool (isB v k)) ∧ Chg (fun _ => False) w w' :=
  (is_at v k w hk).mono fun _ _ h => ⟨h.1, h.2 ▸ (Chg.refl _ _).alloc _⟩
def goodB (a b c d : Val) : Bool := isB a 3 && isB b 1 && isB c 2 && isB d 2 && decide (1 ≤ b.num) && decide (b.num ≤ 3)
theorem rCols_good {a b c d : Val} {l : List Val} (h : goodB a b c d = true) : rCols (a :: b :: c :: d :: l) = (rCols l).map (⟨a.str, b.num, c.num == 1, d.num == 1⟩ :: ·) := by
  unfold goodB at h
  simp only [Bool.and_eq_true, decide_eq_true_eq] at h
  obtain ⟨⟨⟨⟨⟨h1, h2⟩, h3⟩, h4⟩, h5⟩, h6⟩ := h
  rw [rCols]
  exact if_pos ⟨h1, h2, h3, h4, h5, h6⟩
theorem rCols_bad {a b c d : Val} {l : List Val} (h : goodB a b c d = false) : rCols (a :: b :: c :: d :: l) = none := by
  rw [rCols]
  refine if_neg (fun ⟨h1, h2, h3, h4, h5, h6⟩ => ?_)
  unfold goodB at h
  rw [h1, h2, h3, h4, decide_eq_true h5, decide_eq_true h6] at h
  cases h
theorem drop_four {l : List Val} {i : Nat} {a b c d : Val} (ha : l[i]? = some a) (hb : l[i + 1]? = some b) (hc : l[i + 2]? = some c) (hd : l[i + 3]? = some d) : l.drop i = a :: b :: c :: d :: l.drop (i + 4) := by
  obtain ⟨h0, rfl⟩ := List.getElem?_eq_some_iff.1 ha
  obtain ⟨h1, rfl⟩ := List.getElem?_eq_some_iff.1 hb
  obtain ⟨h2, rfl⟩ := List.getElem?_eq_some_iff.1 hc
  obtain ⟨h3, rfl⟩ := List.getElem?_eq_some_iff.1 hd
  rw [List.drop_eq_getElem_cons h0, List.drop_eq_getElem_cons h1, List.drop_eq_getElem_cons h2, List.drop_eq_getElem_cons h3]
theorem rTab_few {row : List Val} (h : row.length < 2) : rTab row = none := by
  match row, h with
  | [], _ => rfl
  | [_], _ => rfl
theorem rTab_odd {row : List Val} (h : ¬ row.length % 4 = 2) : rTab row = none := by
  match row, h with
  | [], _ => rfl
  | [_], _ => rfl
  | a :: b :: l, h => rw [rTab_two, if_neg (fun hh => h hh.1)]
set_option maxRecDepth 100000 in
set_option maxHeartbeats 4000000 in
theorem rtable_any (v : Value) (F : Nat → Prop) (row : List Val) (w : World) (h : ValsAt w F v row) (hm : row.length ≤ 4400000000000) :
    Calls Try.prog 37 #[v] w (RTabPost row w) := by
  obtain ⟨ao, cap, rfl, hp⟩ := h
  have HV : Hid (ValsAt w F (.slice ao row.length cap) row) := Lib.hid ⟨ao, cap, rfl, hp⟩
  clear hp
  obtain ⟨W1, hW1⟩ : ∃ W1, W1 = (w.alloc (.cells #[.string ⟨#[]⟩, .slice none 0 0] 27)).alloc (.cells #[.string ⟨#[]⟩, .slice none 0 0] 27) := ⟨_, rfl⟩
  have x1 : Chg (fun _ => False) w W1 := by subst hW1; exact ((Chg.refl _ _).alloc _).alloc _
  have b1 : W1.heap[w.heap.size]? = some (.cells #[.string ⟨#[]⟩, .slice none 0 0] 27 (0, 0)) := by subst hW1; rw [hal_old (by simp), hal_new]
  have b2 : W1.heap[w.heap.size + 1]? = some (.cells #[.string ⟨#[]⟩, .slice none 0 0] 27 (0, 0)) := by subst hW1; rw [hal_new' (by simp)]
  have z1 : W1.heap.size = w.heap.size + 2 := by subst hW1; simp
  have X1 := Lib.hid x1; have B1 := Lib.hid b1; have B2 := Lib.hid b2; have HW := Lib.hid hW1; have Z1 := Lib.hid z1
  clear x1 b1 b2 hW1 z1
  by_cases h2 : row.length < 2
  · have HN := Lib.hid (rTab_few h2)
    go_enter Try.func37, Try.ntmps37
    go_wp2
    rw [← HW.out]
    refine bodyPost_ret (results_big2 Try.results37 _ _ w.heap.size [.string ⟨#[]⟩, .slice none 0 0] _ rfl (range_block B1.out) Try.underlying27 rfl (by kernel_rfl)) rfl ⟨_, _, _, _, by rw [HN.out]; rfl, X1.out, fun t ht => by rw [HN.out] at ht; cases ht⟩
  · by_cases h4 : row.length % 4 = 2
    · obtain ⟨nv, hnv⟩ : ∃ x, row[1]? = some x := ⟨_, List.getElem?_eq_getElem (by omega)⟩
      obtain ⟨bb, of, rfl, hbl, hbf, p0, p1, p2⟩ := ValsAt.val HV.out hnv
      have hrow : rTab row = if isB nv 3 = true then (rCols (row.drop 2)).map (fun cs => ⟨nv.str, cs⟩) else none := by
        match row, h2, h4, hnv with
        | a :: b :: l, _, h4, hnv =>
          simp only [List.getElem?_cons_succ, List.getElem?_cons_zero, Option.some.injEq] at hnv
          subst hnv
          simp only [List.length_cons] at h4
          rw [rTab_two, List.drop_succ_cons, List.drop_succ_cons, List.drop_zero]
          simp only [h4, true_and]
      simp only [Nat.one_mul] at p0 p1 p2
      have p5 : w.cell? ⟨bb, of + 5, none⟩ = some (.string nv.str) := p2
      have HRW := Lib.hid hrow
      clear hrow hnv
      cases h3 : isB nv 3 with
      | false =>
        have HN := Lib.hid (show rTab row = none by rw [HRW.out, h3]; rfl)
        have H3 := Lib.hid h3
        clear h3
        go_enter Try.func37, Try.ntmps37
        go_wp2_with fail
        refine (is_at nv 3 _ (by omega)).mono ?_
        rw [H3.out]
        rintro e w' ⟨rfl, rfl⟩
        go_wp2
        rw [← HW.out]
        refine bodyPost_ret (results_big2 Try.results37 _ _ w.heap.size [.string ⟨#[]⟩, .slice none 0 0] _ rfl (range_block (((Chg.refl (fun _ => False) W1).alloc _).heap B1.out (fun h => h))) Try.underlying27 rfl (by kernel_rfl)) rfl ⟨_, _, _, _, by rw [HN.out]; rfl, X1.out.alloc _, fun t ht => by rw [HN.out] at ht; cases ht⟩
      | true =>
        have H3 := Lib.hid h3
        clear h3
        go_enter Try.func37, Try.ntmps37
        go_wp2_with fail
        rw [← HW.out]
        refine (is_any nv 3 _ (by omega)).mono ?_
        rw [H3.out]
        rintro e w2 ⟨rfl, x2⟩
        have p2 := (cell_of_heap ((X1.out.trans x2 (fun _ h => h.elim)).keep bb hbl (fun h => h))).trans p2
        have b2 := x2.heap B2.out (fun h => h)
        have m0 := cell_of_row w2 (w.heap.size + 1) 0 _ _ _ b2
        have f0 := frozen_of_row w2 (w.heap.size + 1) 0 _ _ b2
        have X2 := Lib.hid x2; have BB2 := Lib.hid b2; have BB1 := Lib.hid (x2.heap B1.out (fun h => h))
        have Z2 : Hid (w.heap.size + 2 ≤ w2.heap.size) := Lib.hid (by have := x2.size; have := Z1.out; omega)
        clear x2 b2 p0 p1
        go_wp2
        obtain ⟨W3, hW3⟩ : ∃ W3, W3 = w2.setCell ⟨w.heap.size + 1, 0, none⟩ (.string nv.str) := ⟨_, rfl⟩
        rw [← hW3]
        have B3 : Hid (W3.heap[w.heap.size + 1]? = some (.cells #[.string nv.str, .slice none 0 0] 27 (0, 0))) := Lib.hid (by subst hW3; rw [hset_eq BB2.out]; rfl)
        have B31 : Hid (W3.heap[w.heap.size]? = some (.cells #[.string ⟨#[]⟩, .slice none 0 0] 27 (0, 0))) := Lib.hid (by subst hW3; rw [hset_ne (by omega)]; exact BB1.out)
        have X3 : Hid (Chg (fun _ => False) w W3) := Lib.hid (by subst hW3; exact (X1.out.trans X2.out (fun _ h => h.elim)).setCell (p := ⟨w.heap.size + 1, 0, none⟩) (.inr (by simp)) _)
        have Z3 : Hid (w.heap.size + 2 ≤ W3.heap.size) := Lib.hid (by subst hW3; simpa [World.setCell] using Z2.out)
        clear hW3 m0 f0 p2
        go_loopw [5] (fun s wr => ∃ (i : Nat) (acc : List Col) (ac : Option Addr) (cc : Nat), i ≤ row.length ∧ s = .int .i64 i ∧ i % 4 = 2 ∧ acc.length ≤ i ∧ Hid (rTab row = (rCols (row.drop i)).map (fun cs => ⟨nv.str, acc ++ cs⟩)) ∧ Hid (wr.heap[w.heap.size + 1]? = some (.cells #[.string nv.str, .slice ac acc.length cc] 27 (0, 0))) ∧ Hid (wr.heap[w.heap.size]? = some (.cells #[.string ⟨#[]⟩, .slice none 0 0] 27 (0, 0))) ∧ Hid (Own 30 4 wr (w.heap.size + 2) (.slice ac acc.length cc) acc.length (colCells acc)) ∧ Hid (Chg (fun _ => False) w wr) ∧ w.heap.size + 2 ≤ wr.heap.size) (fun s _ => row.length - (intOf s).toNat)
        case atStart => exact ⟨2, [], none, 0, by omega, rfl, rfl, Nat.zero_le _, Lib.hid (by rw [HRW.out, H3.out]; simp), B3, B31, Lib.hid (Own.nil _ _ _ _), X3, Z3.out⟩
        case round =>
          obtain ⟨i, acc, ac, cc, hi, rfl, him, hacc, HT, HB4, HB2, HO, HX, hz⟩ := hrel
          by_cases hlt : i < row.length
          · obtain ⟨a, ha⟩ : ∃ x, row[i]? = some x := ⟨_, List.getElem?_eq_getElem hlt⟩
            obtain ⟨b, hb⟩ : ∃ x, row[i + 1]? = some x := ⟨_, List.getElem?_eq_getElem (by omega)⟩
            obtain ⟨c, hc⟩ : ∃ x, row[i + 2]? = some x := ⟨_, List.getElem?_eq_getElem (by omega)⟩
            obtain ⟨d, hd⟩ : ∃ x, row[i + 3]? = some x := ⟨_, List.getElem?_eq_getElem (by omega)⟩
            have hl1 : i + 1 < row.length := by omega
            have hl2 : i + 2 < row.length := by omega
            have hl3 : i + 3 < row.length := by omega
            have HD := Lib.hid (drop_four ha hb hc hd)
            have hv := fun W (hW : Chg (fun _ => False) wr W) => RowAt.quiet HV.out (HX.out.trans hW (fun _ h => h.elim))
            have hcell : ∀ (j : Nat) (x : Val), row[j]? = some x → ∀ W, Chg (fun _ => False) wr W → W.cell? ⟨bb, of + j * 3, none⟩ = some (.int .i64 x.kind) ∧ W.cell? ⟨bb, of + j * 3 + 1, none⟩ = some (.int .i64 x.num) ∧ W.cell? ⟨bb, of + j * 3 + 2, none⟩ = some (.string x.str) := fun j x hx W hW => by
              obtain ⟨b', o', he, _, _, q0, q1, q2⟩ := ValsAt.val (hv W hW) hx
              simp only [Option.some.injEq, Addr.mk.injEq] at he
              obtain ⟨rfl, rfl, _⟩ := he
              exact ⟨q0, q1, q2⟩
            have PA := Lib.hid (hcell i a ha); have PB := Lib.hid (hcell (i + 1) b hb); have PC := Lib.hid (hcell (i + 2) c hc); have PD := Lib.hid (hcell (i + 3) d hd)
            clear hcell hv ha hb hc hd
            go_upto_region 8 with (fail)
            go_cut [85] (fun s85 wx => s85 = .bool (!goodB a b c d) ∧ Chg (fun _ => False) wr wx)
            case first =>
              obtain ⟨a0, a1, a2⟩ := PA.out wr (Chg.refl _ _)
              cases g0 : isB a 3 with
              | false =>
                have HG := Lib.hid (show goodB a b c d = false by simp [goodB, g0])
                have G0 := Lib.hid g0
                clear g0
                go_wp2_with fail
                refine (is_any a 3 _ (by omega)).mono ?_
                rw [G0.out]
                rintro e w5 ⟨rfl, x⟩
                have X0 := Lib.hid (x)
                clear x
                go_wp2_with fail
                go_meet
                exact ⟨by rw [HG.out]; rfl, X0.out⟩
              | true =>
                have G0 := Lib.hid g0
                clear g0
                go_wp2_with fail
                refine (is_any a 3 _ (by omega)).mono ?_
                rw [G0.out]
                rintro e w5 ⟨rfl, x⟩
                have X0 := Lib.hid (x)
                clear x a0 a1 a2
                obtain ⟨a0, a1, a2⟩ := PB.out w5 X0.out
                cases g1 : isB b 1 with
                | false =>
                  have HG := Lib.hid (show goodB a b c d = false by simp [goodB, g1])
                  have G1 := Lib.hid g1
                  clear g1
                  go_wp2_with fail
                  refine (is_any b 1 _ (by omega)).mono ?_
                  rw [G1.out]
                  rintro e w6 ⟨rfl, x⟩
                  have X1 := Lib.hid (X0.out.trans x (fun _ h => h.elim))
                  clear x
                  go_wp2_with fail
                  go_meet
                  exact ⟨by rw [HG.out]; rfl, X1.out⟩
                | true =>
                  have G1 := Lib.hid g1
                  clear g1
                  go_wp2_with fail
                  refine (is_any b 1 _ (by omega)).mono ?_
                  rw [G1.out]
                  rintro e w6 ⟨rfl, x⟩
                  have X1 := Lib.hid (X0.out.trans x (fun _ h => h.elim))
                  clear x a0 a1 a2
                  obtain ⟨a0, a1, a2⟩ := PC.out w6 X1.out
                  cases g2 : isB c 2 with
                  | false =>
                    have HG := Lib.hid (show goodB a b c d = false by simp [goodB, g2])
                    have G2 := Lib.hid g2
                    clear g2
                    go_wp2_with fail
                    refine (is_any c 2 _ (by omega)).mono ?_
                    rw [G2.out]
                    rintro e w7 ⟨rfl, x⟩
                    have X2 := Lib.hid (X1.out.trans x (fun _ h => h.elim))
                    clear x
                    go_wp2_with fail
                    go_meet
                    exact ⟨by rw [HG.out]; rfl, X2.out⟩
                  | true =>
                    have G2 := Lib.hid g2
                    clear g2
                    go_wp2_with fail
                    refine (is_any c 2 _ (by omega)).mono ?_
                    rw [G2.out]
                    rintro e w7 ⟨rfl, x⟩
                    have X2 := Lib.hid (X1.out.trans x (fun _ h => h.elim))
                    clear x a0 a1 a2
                    obtain ⟨a0, a1, a2⟩ := PD.out w7 X2.out
                    cases g3 : isB d 2 with
                    | false =>
                      have HG := Lib.hid (show goodB a b c d = false by simp [goodB, g3])
                      have G3 := Lib.hid g3
                      clear g3
                      go_wp2_with fail
                      refine (is_any d 2 _ (by omega)).mono ?_
                      rw [G3.out]
                      rintro e w8 ⟨rfl, x⟩
                      have X3 := Lib.hid (X2.out.trans x (fun _ h => h.elim))
                      clear x
                      go_wp2_with fail
                      go_meet
                      exact ⟨by rw [HG.out]; rfl, X3.out⟩
                    | true =>
                      have G3 := Lib.hid g3
                      clear g3
                      go_wp2_with fail
                      refine (is_any d 2 _ (by omega)).mono ?_
                      rw [G3.out]
                      rintro e w8 ⟨rfl, x⟩
                      have X3 := Lib.hid (X2.out.trans x (fun _ h => h.elim))
                      clear x a0 a1 a2
                      obtain ⟨a0, a1, a2⟩ := PB.out w8 X3.out
                      by_cases h5 : b.num < 1
                      · have HG := Lib.hid (show goodB a b c d = false by simp [goodB]; omega)
                        go_wp2_with fail
                        go_meet
                        exact ⟨by rw [HG.out]; rfl, X3.out⟩
                      · by_cases h6 : 3 < b.num
                        · have HG := Lib.hid (show goodB a b c d = false by simp [goodB]; omega)
                          go_wp2_with fail
                          go_meet
                          exact ⟨by rw [HG.out]; rfl, X3.out⟩
                        · have HG := Lib.hid (show goodB a b c d = true by simp [goodB, G0.out, G1.out, G2.out, G3.out]; omega)
                          go_wp2_with fail
                          go_meet
                          exact ⟨by rw [HG.out, decide_eq_false (show ¬ b.num < 1 by omega), decide_eq_false (show ¬ 3 < b.num by omega)]; rfl, X3.out⟩
            case rest =>
              obtain ⟨rfl, hx⟩ := hcut
              have b4 := hx.heap HB4.out (fun h => h)
              have b2 := hx.heap HB2.out (fun h => h)
              have t0 := cell_of_row wc (w.heap.size + 1) 0 _ _ _ b4
              have t1 := cell_of_row wc (w.heap.size + 1) 1 _ _ _ b4
              have HXC := Lib.hid (HX.out.trans hx (fun _ h => h.elim)); have HX1 := Lib.hid hx
              have HO1 := Lib.hid (HO.out.quiet hx)
              have BB4 := Lib.hid b4; have BB2 := Lib.hid b2
              have hzc : w.heap.size + 2 ≤ wc.heap.size := Nat.le_trans hz hx.size
              cases hg : goodB a b c d with
              | false =>
                have HN := Lib.hid (show rTab row = none by rw [HT.out, HD.out, rCols_bad hg]; rfl)
                have m0 := cell_of_row wc w.heap.size 0 _ _ _ b2
                have m1 := cell_of_row wc w.heap.size 1 _ _ _ b2
                have f0 := frozen_of_row wc w.heap.size 0 _ _ b2
                have f1 := frozen_of_row wc w.heap.size 1 _ _ b2
                clear hx b4 b2 hg
                go_wp2
                have b5 : ((wc.setCell ⟨w.heap.size, 0, none⟩ (.string nv.str)).setCell ⟨w.heap.size, 1, none⟩ (.slice ac acc.length cc)).heap[w.heap.size]? = some (.cells #[.string nv.str, .slice ac acc.length cc] 27 (0, 0)) := by
                  rw [hset_eq (hset_eq BB2.out)]; rfl
                refine bodyPost_ret (results_big2 Try.results37 _ _ w.heap.size [.string nv.str, .slice ac acc.length cc] _ rfl (range_block b5) Try.underlying27 rfl (by kernel_rfl)) rfl ⟨_, _, _, _, by rw [HN.out]; rfl, ?_, fun t ht => by rw [HN.out] at ht; cases ht⟩
                exact (HXC.out.setCell (p := ⟨w.heap.size, 0, none⟩) (.inr (Nat.le_refl _)) _).setCell (p := ⟨w.heap.size, 1, none⟩) (.inr (Nat.le_refl _)) _
              | true =>
                have HTT := Lib.hid (show rTab row = (rCols (row.drop (i + 4))).map (fun cs => ⟨nv.str, (acc ++ [(⟨a.str, b.num, c.num == 1, d.num == 1⟩ : Col)]) ++ cs⟩) by
                  rw [HT.out, HD.out, rCols_good hg, Option.map_map]
                  congr 1
                  funext cs
                  simp)
                have hS : ∀ W, Chg (fun _ => False) wc W → W.cell? ⟨w.heap.size + 1, 1, none⟩ = some (.slice ac acc.length cc) ∧ W.cell? ⟨bb, of + i * 3 + 2, none⟩ = some (.string a.str) ∧ W.cell? ⟨bb, of + (i + 1) * 3 + 1, none⟩ = some (.int .i64 b.num) ∧ W.cell? ⟨bb, of + (i + 2) * 3 + 1, none⟩ = some (.int .i64 c.num) ∧ W.cell? ⟨bb, of + (i + 3) * 3 + 1, none⟩ = some (.int .i64 d.num) := fun W hW => by
                  have h1 := HX1.out.trans hW (fun _ h => h.elim)
                  exact ⟨cell_of_row W _ 1 _ _ _ (hW.heap BB4.out (fun h => h)), (PA.out W h1).2.2, (PB.out W h1).2.1, (PC.out W h1).2.1, (PD.out W h1).2.1⟩
                have HS := Lib.hid hS
                have e1 : IntKind.i64.wrap ((i : Int) + 1) = (i : Int) + 1 := IntWalk.i64_in _ (by omega)
                have e2 : IntKind.i64.wrap ((i : Int) + 2) = (i : Int) + 2 := IntWalk.i64_in _ (by omega)
                have e3 : IntKind.i64.wrap ((i : Int) + 3) = (i : Int) + 3 := IntWalk.i64_in _ (by omega)
                have E1 := Lib.hid e1; have E2 := Lib.hid e2; have E3 := Lib.hid e3
                have n1 : (0 : Int) ≤ (i : Int) + 1 := by omega
                have n2 : (0 : Int) ≤ (i : Int) + 2 := by omega
                have n3 : (0 : Int) ≤ (i : Int) + 3 := by omega
                have N1 := Lib.hid n1; have N2 := Lib.hid n2; have N3 := Lib.hid n3
                have r1 : (i : Int) + 1 < (row.length : Int) := by omega
                have r2 : (i : Int) + 2 < (row.length : Int) := by omega
                have r3 : (i : Int) + 3 < (row.length : Int) := by omega
                have R1 := Lib.hid r1; have R2 := Lib.hid r2; have R3 := Lib.hid r3
                have q1 : ((i : Int) + 1).toNat = i + 1 := by omega
                have q2 : ((i : Int) + 2).toNat = i + 2 := by omega
                have q3 : ((i : Int) + 3).toNat = i + 3 := by omega
                have Q1 := Lib.hid q1; have Q2 := Lib.hid q2; have Q3 := Lib.hid q3
                clear hS t0 t1 hx b4 b2 hg e1 e2 e3 n1 n2 n3 q1 q2 q3 r1 r2 r3
                go_wp2
                refine wp_region_lex (fun W => W.cell? ⟨w.heap.size + 1, 1, none⟩ = some (.slice ac acc.length cc) ∧ W.cell? ⟨bb, of + i * 3 + 2, none⟩ = some (.string a.str) ∧ W.cell? ⟨bb, of + (i + 1) * 3 + 1, none⟩ = some (.int .i64 b.num) ∧ W.cell? ⟨bb, of + (i + 2) * 3 + 1, none⟩ = some (.int .i64 c.num) ∧ W.cell? ⟨bb, of + (i + 3) * 3 + 1, none⟩ = some (.int .i64 d.num)) 31 [28, 29, 31] [0, 1, 2, 3, 4, 5, 6, 7, 8, 9, 10, 11, 12, 13, 14, 15, 16, 17, 18, 19, 20, 21, 22, 23, 24, 25, 26, 27, 28, 29, 30, 31] (by kernel_rfl) (by kernel_rfl) (HS.out _ (Chg.refl _ _).drew) ?_
                have e1 := E1.out; have e2 := E2.out; have e3 := E3.out
                have n1 := N1.out; have n2 := N2.out; have n3 := N3.out
                have r1 := R1.out; have r2 := R2.out; have r3 := R3.out
                have q1 := Q1.out; have q2 := Q2.out; have q3 := Q3.out
                iterate 28
                  refine' lex_free (v := _) rfl rfl rfl ?_ (fun _ _ _ h => h) ?_
                  rotate_left
                  · rintro W ⟨hW1, hW2, hW3, hW4, hW5⟩
                    go_simp
                    with_reducible rfl
                  try simp only [Act.put, List.setIfInBounds_toArray, List.set_cons_zero, List.set_cons_succ]
                clear e1 e2 e3 n1 n2 n3 q1 q2 q3 r1 r2 r3
                refine lex_op rfl rfl rfl (fun K hK => ?_)
                go_simp
                have OT := Lib.hid (HO1.out.quiet ((Chg.refl (fun _ => False) wc).drew.alloc (.cells (Col.cells ⟨a.str, b.num, c.num == 1, d.num == 1⟩).toArray 30)))
                refine hK _ _ (fun _ => HS.out _ ((Chg.refl _ _).drew.alloc _)) ?_
                clear hK K
                try simp only [Act.put, List.setIfInBounds_toArray, List.set_cons_zero, List.set_cons_succ]
                refine lex_op rfl rfl rfl (fun K hK => ?_)
                refine own_wp col_ok _ _ rfl (w.heap.size + 2) _ acc.length (colCells acc) rfl OT.out (fun _ => True) (.slice (some ⟨wc.heap.size, 0, none⟩) 1 1) 1 (Col.cells ⟨a.str, b.num, c.num == 1, d.num == 1⟩) rfl ⟨_, 1, rfl, fun _ => ⟨wc.heap.size, 0, rfl, by simp, trivial, range_block hal_new⟩⟩ rfl (fun y hy => colCells_one [⟨a.str, b.num, c.num == 1, d.num == 1⟩] y (by simpa [colCells] using hy)) (by unfold maxLen; omega) (by omega) (by simp; omega) ?_
                intro v9 w9 o9 c9 hat9
                obtain ⟨a9, k9, rfl, _⟩ := o9.form
                have hlo := fun g (hg : (Value.slice ac acc.length cc).ownBlock = some g) => HO1.out.lo g hg
                have y9 := ((Chg.refl (fun g => (Value.slice ac acc.length cc).ownBlock = some g) wc).drew.alloc (.cells (Col.cells ⟨a.str, b.num, c.num == 1, d.num == 1⟩).toArray 30)).trans c9 (fun g h => .inl h)
                have b9 := y9.heap BB4.out (fun h => by have := hlo _ h; omega)
                have b8 := y9.heap BB2.out (fun h => by have := hlo _ h; omega)
                have s9 := HS.out ((wc.drew.alloc (.cells (Col.cells ⟨a.str, b.num, c.num == 1, d.num == 1⟩).toArray 30))) ((Chg.refl _ _).drew.alloc _)
                have kb := c9.keep bb (by simp; omega) (fun h => by have := hlo _ h; omega)
                have m1 := cell_of_row w9 (w.heap.size + 1) 1 _ _ _ b9
                have f1 := frozen_of_row w9 (w.heap.size + 1) 1 _ _ b9
                have Y9 := Lib.hid y9; have B9 := Lib.hid b9; have B8 := Lib.hid b8
                have Z9 : Hid (wc.heap.size ≤ w9.heap.size) := Lib.hid y9.size
                have xs : Chg (fun g => g = w.heap.size + 1) w9 (w9.setCell ⟨w.heap.size + 1, 1, none⟩ (.slice a9 (acc.length + 1) k9)) := (Chg.refl (fun g => g = w.heap.size + 1) w9).setCell (p := ⟨w.heap.size + 1, 1, none⟩) (.inl rfl) _
                have O9 : Hid (Own 30 4 (w9.setCell ⟨w.heap.size + 1, 1, none⟩ (.slice a9 (acc.length + 1) k9)) (w.heap.size + 2) (.slice a9 (acc ++ [(⟨a.str, b.num, c.num == 1, d.num == 1⟩ : Col)]).length k9) (acc ++ [(⟨a.str, b.num, c.num == 1, d.num == 1⟩ : Col)]).length (colCells (acc ++ [(⟨a.str, b.num, c.num == 1, d.num == 1⟩ : Col)]))) := Lib.hid (by
                  have e : colCells (acc ++ [(⟨a.str, b.num, c.num == 1, d.num == 1⟩ : Col)]) = colCells acc ++ Col.cells ⟨a.str, b.num, c.num == 1, d.num == 1⟩ := by unfold colCells; rw [List.flatMap_append]; simp
                  rw [e, List.length_append]
                  exact o9.chg xs (fun g hg h => by have := o9.lo g hg; omega))
                have X9 : Hid (Chg (fun _ => False) w (w9.setCell ⟨w.heap.size + 1, 1, none⟩ (.slice a9 (acc.length + 1) k9))) := Lib.hid ((((HXC.out.mono (G := fun g => w.heap.size ≤ g) (fun _ h => h.elim)).trans y9 (fun g h => .inl (by have := hlo _ h; show w.heap.size ≤ g; omega))).trans xs (fun g h => .inl (by show w.heap.size ≤ g; omega))).mono (G := fun _ => False) (fun k hk => .inr hk))
                refine hK _ _ (fun _ => ⟨m1, (cell_of_heap kb).trans s9.2.1, (cell_of_heap kb).trans s9.2.2.1, (cell_of_heap kb).trans s9.2.2.2.1, (cell_of_heap kb).trans s9.2.2.2.2⟩) ?_
                clear hK K
                try simp only [Act.put, List.setIfInBounds_toArray, List.set_cons_zero, List.set_cons_succ]
                clear o9 c9 hat9 y9 b9 b8 s9 kb xs hlo
                iterate 1
                  refine' lex_free (v := _) rfl rfl rfl ?_ (fun _ _ _ h => h) ?_
                  rotate_left
                  · rintro W ⟨hW1, hW2, hW3, hW4, hW5⟩
                    go_simp
                    with_reducible rfl
                  try simp only [Act.put, List.setIfInBounds_toArray, List.set_cons_zero, List.set_cons_succ]
                refine lex_op rfl rfl rfl (fun K hK => ?_)
                go_simp
                refine hK _ _ (fun h => absurd rfl h) ?_
                clear hK K
                try simp only [Act.put, List.setIfInBounds_toArray, List.set_cons_zero, List.set_cons_succ]
                refine lex_nil ?_
                go_wp2
                go_roundw
                case rel =>
                  refine ⟨i + 4, _, a9, k9, by omega, by go_num, by omega, by rw [List.length_append]; simp; omega, HTT, Lib.hid ?_, Lib.hid ?_, O9, X9, ?_⟩
                  · rw [hset_eq B9.out, List.length_append]; rfl
                  · rw [hset_ne (by omega)]; exact B8.out
                  · have := Z9.out
                    simp [World.setCell]
                    omega
                case measure => simp [intOf]; omega
          · have hE : i = row.length := by omega
            have HN : Hid (rTab row = some ⟨nv.str, acc⟩) := Lib.hid (by rw [HT.out, hE, List.drop_length]; simp [rCols])
            have b4 := HB4.out; have b2 := HB2.out
            have t0 := cell_of_row wr (w.heap.size + 1) 0 _ _ _ b4
            have t1 := cell_of_row wr (w.heap.size + 1) 1 _ _ _ b4
            have m0 := cell_of_row wr w.heap.size 0 _ _ _ b2
            have m1 := cell_of_row wr w.heap.size 1 _ _ _ b2
            have f0 := frozen_of_row wr w.heap.size 0 _ _ b2
            have f1 := frozen_of_row wr w.heap.size 1 _ _ b2
            clear b4 b2 hE
            go_wp2
            have b5 : ((wr.setCell ⟨w.heap.size, 0, none⟩ (.string nv.str)).setCell ⟨w.heap.size, 1, none⟩ (.slice ac acc.length cc)).heap[w.heap.size]? = some (.cells #[.string nv.str, .slice ac acc.length cc] 27 (0, 0)) := by
              rw [hset_eq (hset_eq HB2.out)]; rfl
            have y5 : Chg (fun g => g = w.heap.size) wr ((wr.setCell ⟨w.heap.size, 0, none⟩ (.string nv.str)).setCell ⟨w.heap.size, 1, none⟩ (.slice ac acc.length cc)) := ((Chg.refl (fun g => g = w.heap.size) wr).setCell (p := ⟨w.heap.size, 0, none⟩) (.inl rfl) _).setCell (p := ⟨w.heap.size, 1, none⟩) (.inl rfl) _
            refine bodyPost_ret (results_big2 Try.results37 _ _ w.heap.size [.string nv.str, .slice ac acc.length cc] _ rfl (range_block b5) Try.underlying27 rfl (by kernel_rfl)) rfl ⟨nv.str, ac, acc.length, cc, by rw [HN.out]; rfl, ?_, fun t ht => ?_⟩
            · exact (HX.out.setCell (p := ⟨w.heap.size, 0, none⟩) (.inr (Nat.le_refl _)) _).setCell (p := ⟨w.heap.size, 1, none⟩) (.inr (Nat.le_refl _)) _
            · rw [HN.out] at ht
              obtain rfl := Option.some.inj ht
              refine ⟨rfl, ?_⟩
              exact (RowAt.chg (F := fun k => w.heap.size + 2 ≤ k) HO.out.read y5 (fun k hk h => by omega)).mono (fun k hk _ => by show w.heap.size ≤ k; omega)
    · have HN := Lib.hid (rTab_odd h4)
      go_enter Try.func37, Try.ntmps37
      go_wp2
      rw [← HW.out]
      refine bodyPost_ret (results_big2 Try.results37 _ _ w.heap.size [.string ⟨#[]⟩, .slice none 0 0] _ rfl (range_block B1.out) Try.underlying27 rfl (by kernel_rfl)) rfl ⟨_, _, _, _, by rw [HN.out]; rfl, X1.out, fun t ht => by rw [HN.out] at ht; cases ht⟩
end Go.Proofs.Ytpiijcjbphpffaa
