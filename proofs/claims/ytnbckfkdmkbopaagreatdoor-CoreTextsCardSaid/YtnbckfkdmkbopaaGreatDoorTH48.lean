/-
  Rows: the same rows are the same. No condition beyond each lemma's own.
  CoreTexts: the whole walk. Conditions: the library's variables stand, the text is as long as a string may be.
  How a slice that came in is told to a walk. No condition.
  What the rows' proofs share: the program's own facts, and how arguments that came in are read. No condition.
-/
import Derived.Test.YtnbckfkdmkbopaaGreatDoorTH44
import Derived.Test.YtnbckfkdmkbopaaGreatDoorTH24
import Derived.Test.YtnbckfkdmkbopaaGreatDoorTH37
import Derived.Test.YtnbckfkdmkbopaaGreatDoorTH45
import Derived.Test.YtnbckfkdmkbopaaGreatDoorTH47
import Derived.Test.YtnbckfkdmkbopaaGreatDoorTH43
import Derived.Test.YtnbckfkdmkbopaaGreatDoorTH01
import Derived.Test.YtnbckfkdmkbopaaGreatDoorRows
import Derived.ProofKit
import Derived.OpenShut
import Derived.ChangeOld
import Derived.Deep.SlicePairs
set_option autoImplicit false
namespace Go.Proofs.YtnbckfkdmkbopaaGreatDoor
open Go Go.RowKit
attribute [local go_sem ↓] eql_val

theorem isV_refl (v : Val) : v.isV v = true := Val.isV_iff.2 rfl
set_option maxRecDepth 100000 in
set_option maxHeartbeats 1000000 in
theorem same01_any (row : List Val) (F G : Nat → Prop) (ao ao2 : Option Addr) (cap cap2 : Nat) (hm : row.length ≤ 1000000) (w : World) (h : ValsAt w F (.slice ao row.length cap) row) (h2 : ValsAt w G (.slice ao2 row.length cap2) row) :
    Calls Tryz.prog 32 #[.slice ao row.length cap, .slice ao2 row.length cap2] w fun e w' => e = .returned (.bool true) ∧ Chg NoB w w' := by
  have H := Lib.hid h
  have H2 := Lib.hid h2
  have hb : ((row.length : Int) != row.length) = false := by simp
  clear h h2
  go_enter Tryz.func32, Tryz.ntmps32
  go_wp2_with fail
  go_loopw [5] (fun i wr => ∃ j : Nat, i = .int .i64 j ∧ j ≤ row.length ∧ Hid (Chg NoB w wr)) (fun i _ => (row.length - intOf i).toNat)
  case atStart => exact ⟨0, rfl, Nat.zero_le _, Lib.hid (Chg.refl _ _)⟩
  case round =>
    obtain ⟨j, rfl, hj, HX⟩ := hrel
    by_cases hlt : j < row.length
    · obtain ⟨v, hv⟩ : ∃ v, row[j]? = some v := ⟨_, List.getElem?_eq_getElem hlt⟩
      obtain ⟨ao', cap', e, hh⟩ := H.out
      obtain ⟨b, o, rfl, hbl, hF, hr⟩ := hh (by omega)
      cases e
      obtain ⟨ao', cap', e, hh2⟩ := H2.out
      obtain ⟨b2, o2, rfl, hbl2, hG, hr2⟩ := hh2 (by omega)
      cases e
      have q := range_of_heap (HX.out.keep b hbl (fun h => h)) (range_elem (s := 3) hr (fun _ => rfl) hv)
      have q2 := range_of_heap (HX.out.keep b2 hbl2 (fun h => h)) (range_elem (s := 3) hr2 (fun _ => rfl) hv)
      have a0 : wr.cell? ⟨b, o + j * 3, none⟩ = some (.int .i64 v.kind) := q 0 _ rfl
      have a1 : wr.cell? ⟨b, o + j * 3 + 1, none⟩ = some (.int .i64 v.num) := q 1 _ rfl
      have a2 : wr.cell? ⟨b, o + j * 3 + 2, none⟩ = some (sv v.str) := q 2 _ rfl
      have d0 : wr.cell? ⟨b2, o2 + j * 3, none⟩ = some (.int .i64 v.kind) := q2 0 _ rfl
      have d1 : wr.cell? ⟨b2, o2 + j * 3 + 1, none⟩ = some (.int .i64 v.num) := q2 1 _ rfl
      have d2 : wr.cell? ⟨b2, o2 + j * 3 + 2, none⟩ = some (sv v.str) := q2 2 _ rfl
      have hji : (j : Int) < row.length := by omega
      have hvv := isV_refl v
      clear hv hh hh2 hr hr2 q q2
      go_wp2_with fail
      go_quiet (fail)
      go_wp2_with fail
      go_round
      case rel => exact ⟨j + 1, by go_num, by omega, Lib.hid (HX.out.drewN _)⟩
      case measure => simp [intOf]; omega
    · obtain rfl : j = row.length := by omega
      go_wp2_with fail
      go_ret
      exact ⟨rfl, HX.out⟩
set_option maxRecDepth 100000 in
set_option maxHeartbeats 1000000 in
theorem same15_any (rows : List (List Val)) (F G : Nat → Prop) (ao ao2 : Option Addr) (cap cap2 : Nat) (hm : rows.length ≤ 1000000) (hr : ∀ r ∈ rows, r.length ≤ 1000000) (w : World) (h : RowsAt w F (.slice ao rows.length cap) rows) (h2 : RowsAt w G (.slice ao2 rows.length cap2) rows) :
    Calls Tryz.prog 12 #[.slice ao rows.length cap, .slice ao2 rows.length cap2] w fun e w' => e = .returned (.bool true) ∧ Chg NoB w w' := by
  have H := Lib.hid h
  have H2 := Lib.hid h2
  have HR := Lib.hid hr
  have hb : ((rows.length : Int) != rows.length) = false := by simp
  clear h h2 hr
  go_enter Tryz.func12, Tryz.ntmps12
  go_wp2_with fail
  go_loopw [5] (fun i wr => ∃ j : Nat, i = .int .i64 j ∧ j ≤ rows.length ∧ Hid (Chg NoB w wr)) (fun i _ => (rows.length - intOf i).toNat)
  case atStart => exact ⟨0, rfl, Nat.zero_le _, Lib.hid (Chg.refl _ _)⟩
  case round =>
    obtain ⟨j, rfl, hj, HX⟩ := hrel
    by_cases hlt : j < rows.length
    · obtain ⟨r, hrr⟩ : ∃ r, rows[j]? = some r := ⟨_, List.getElem?_eq_getElem hlt⟩
      obtain ⟨b, o, a1, c1, rfl, hb1, _, hc1, hv1⟩ := (H.out.quiet HX.out).row hrr
      obtain ⟨b2, o2, a2, c2, rfl, hb2, _, hc2, hv2⟩ := (H2.out.quiet HX.out).row hrr
      have HV1 := Lib.hid hv1
      have HV2 := Lib.hid hv2
      have hl := HR.out r (List.mem_of_getElem? hrr)
      have hji : (j : Int) < rows.length := by omega
      have HS : Hid (∀ V, Chg NoB wr V → V.cell? ⟨b, o + j, none⟩ = some (.slice a1 r.length c1) ∧ V.cell? ⟨b2, o2 + j, none⟩ = some (.slice a2 r.length c2)) := Lib.hid fun V c => ⟨(cell_of_heap (c.keep b hb1 (fun h => h))).trans hc1, (cell_of_heap (c.keep b2 hb2 (fun h => h))).trans hc2⟩
      clear hrr hv1 hv2 hc1 hc2
      go_wp2_with fail
      refine wp_region_lex (fun V => V.cell? ⟨b, o + j, none⟩ = some (.slice a1 r.length c1) ∧ V.cell? ⟨b2, o2 + j, none⟩ = some (.slice a2 r.length c2)) 99 [8] [0, 1, 2, 3, 4, 5, 6, 7, 8, 9] (by kernel_rfl) (by kernel_rfl) (HS.out _ (Chg.refl _ _).drew) ?_
      iterate 8
        refine' lex_free (v := _) rfl rfl rfl ?_ (fun _ _ _ h => h) ?_
        rotate_left
        · rintro W ⟨h1, h2⟩
          go_simp
          with_reducible rfl
        try simp only [Act.put, List.setIfInBounds_toArray, List.set_cons_zero, List.set_cons_succ]
      refine lex_op rfl rfl rfl (fun K hK => ?_)
      go_simp
      refine (same01_any r F G a1 a2 c1 c2 hl _ (RowAt.quiet HV1.out (Chg.refl _ _).drew) (RowAt.quiet HV2.out (Chg.refl _ _).drew)).mono ?_
      rintro e w2 ⟨rfl, c2'⟩
      have C2 := Lib.hid ((Chg.refl NoB wr).drew.trans c2' (fun _ h => .inl h))
      have X2 := Lib.hid (HX.out.trans C2.out (fun _ h => .inl h))
      refine hK _ _ (fun _ => HS.out _ C2.out) ?_
      clear hK K
      try simp only [Act.put, List.setIfInBounds_toArray, List.set_cons_zero, List.set_cons_succ]
      iterate 1
        refine' lex_free (v := _) rfl rfl rfl ?_ (fun _ _ _ h => h) ?_
        rotate_left
        · rintro W ⟨h1, h2⟩
          go_simp
          with_reducible rfl
        try simp only [Act.put, List.setIfInBounds_toArray, List.set_cons_zero, List.set_cons_succ]
      refine lex_nil ?_
      go_wp2_with fail
      go_round
      case rel => exact ⟨j + 1, by go_num, by omega, X2⟩
      case measure => simp [intOf]; omega
    · obtain rfl : j = rows.length := by omega
      go_wp2_with fail
      go_ret
      exact ⟨rfl, HX.out⟩
end Go.Proofs.YtnbckfkdmkbopaaGreatDoor

set_option autoImplicit false
namespace Go.Proofs.YtnbckfkdmkbopaaGreatDoor
open Go Go.RowKit

attribute [local go_sem ↓] eql_val
/-- the opposite of a condition that is asked has a type -/
theorem not_ty {text : Str} {x y : Ex} (h : askedL text = some (x, .un 4 y)) : ∃ t, tyL cols4 (.un 4 y) = some t := by
  obtain ⟨t, ht, _⟩ := asked_ty h
  exact ⟨t, ht⟩
/-- what stands behind a call of asked, its two trees laid in two blocks -/
structure XMid (w0 : World) (x y : Ex) (A B : ExF) (b5 b6 : Nat) (V : World) : Prop where
  c : Chg NoB w0 V
  h5 : V.heap[b5]? = some A.obj
  h6 : V.heap[b6]? = some B.obj
  hx : ExAt V (fun _ => True) x A
  hy : ExAt V (fun _ => True) y B
theorem XMid.quiet {w0 : World} {x y : Ex} {A B : ExF} {b5 b6 : Nat} {V V' : World} (h : XMid w0 x y A B b5 b6 V) (c : Chg NoB V V') : XMid w0 x y A B b5 b6 V' :=
  ⟨h.c.trans c (fun _ h => .inl h), c.heap h.h5 (fun h => h), c.heap h.h6 (fun h => h), h.hx.quiet c, h.hy.quiet c⟩
theorem XMid.mk' {w0 w1 w2 : World} {x y : Ex} {A B : ExF} (c1 : Chg NoB w0 w1) (c : Chg NoB w1 w2) (h : ExAt w2 (fun k => w1.heap.size ≤ k) x A ∧ ExAt w2 (fun k => w1.heap.size ≤ k) y B) : XMid w0 x y A B w2.heap.size (w2.heap.size + 1) ((w2.alloc A.obj).alloc B.obj) := by
  have c2 : Chg NoB w2 ((w2.alloc A.obj).alloc B.obj) := ((Chg.refl NoB w2).alloc _).alloc _
  exact ⟨(c1.trans c (fun _ h => .inl h)).trans c2 (fun _ h => .inl h), (hal_old (by simp)).trans hal_new, hal_new' (by simp), (ExAt.mono (fun _ _ _ => trivial) _ _ h.1).quiet c2, (ExAt.mono (fun _ _ _ => trivial) _ _ h.2).quiet c2⟩
/-- a value laid in a block -/
theorem vobj_cells {w : World} {b : Nat} {v : Val} (h : w.heap[b]? = some v.obj) : w.cell? ⟨b, 0, none⟩ = some (.int .i64 v.kind) ∧ w.cell? ⟨b, 1, none⟩ = some (.int .i64 v.num) ∧ w.cell? ⟨b, 2, none⟩ = some (sv v.str) :=
  ⟨cell_of_row w b 0 _ _ _ h, cell_of_row w b 1 _ _ _ h, cell_of_row w b 2 _ _ _ h⟩
theorem dpar_sv (s : Str) : (⟨#[40, 40]⟩ : ByteArray) ++ ⟨s.toArray⟩ ++ ⟨#[41, 41]⟩ = ⟨(dpar s).toArray⟩ := by
  apply ByteArray.ext
  simp [dpar]
theorem npar_sv (s : Str) : (⟨#[110, 111, 116, 32, 40]⟩ : ByteArray) ++ ⟨s.toArray⟩ ++ ⟨#[41]⟩ = ⟨(npar s).toArray⟩ := by
  apply ByteArray.ext
  simp [npar]
set_option maxRecDepth 100000 in
set_option maxHeartbeats 4000000 in
theorem ctexts_any (text : Str) (row : List Val) (F : Nat → Prop) (ao : Option Addr) (cap : Nat) (w : World) (hg : GlobT w) (h10 : 10 ≤ w.heap.size) (ht : text.length ≤ 140737488355328)
    (hR : ValsAt w F (.slice ao row.length cap) row) (hr1 : row.length ≤ 100000000000000) :
    Calls Tryz.prog 4 #[sv text, .slice ao row.length cap] w fun e w' => e = .returned (.bool true) ∧ Chg NoB w w' := by
  have HR1 := Lib.hid (reads_any w hg.g h10)
  have HA : Hid (∀ (t : Str) W, Chg NoB w W → t.length ≤ 140737488355328 → Calls Tryz.prog 6 #[sv t] W (AskOut t W)) := Lib.hid fun t W c h => asked_any t W (hg.g.quiet c) (Nat.le_trans h10 c.size) h
  have HG := Lib.hid hg
  have R0 := Lib.hid hR
  have HT := Lib.hid ht
  have HL1 := Lib.hid hr1
  clear hg hR ht hr1
  go_enter Tryz.func4, Tryz.ntmps4
  go_wp2_with fail
  refine HR1.out.mono ?_
  rintro e w1 ⟨rfl, c1⟩
  have X1 := Lib.hid c1
  clear c1 HR1
  go_wp2_with fail
  refine (HA.out text w1 X1.out HT.out).mono ?_
  rintro e w2 ⟨c2, A, B, rfl, hx⟩
  obtain ⟨o, ho⟩ : ∃ o, askedL text = o := ⟨_, rfl⟩
  rcases o with _ | ⟨x, y⟩
  · have X3 : Hid (∀ o o', Chg NoB w ((w2.alloc o).alloc o')) := Lib.hid fun o o' => ((X1.out.trans c2 (fun k h => h.elim)).alloc _).alloc _
    rw [ho]
    clear X1 c2 hx ho
    go_wp2_with fail
    go_ret
    exact ⟨rfl, X3.out _ _⟩
  have M0 := Lib.hid (XMid.mk' X1.out c2 (hx x y ho))
  have HO := Lib.hid ho
  rw [ho]
  clear hx ho c2 X1
  go_upto_region 4 with (fail)
  generalize hW : (w2.alloc _).alloc _ = W0
  rw [show (w2.alloc A.obj).alloc B.obj = W0 from hW] at M0
  clear hW
  have hr1 := HL1.out
  obtain ⟨q, hq⟩ : ∃ q, rightB [1, 1, 1, 3] row = q := ⟨_, rfl⟩
  have HQ := Lib.hid hq
  have HRT : Hid (∀ W : World, Chg NoB W0 W → W.heap[W0.heap.size]? = some (.cells #[.int .i64 1, .int .i64 1, .int .i64 1, .int .i64 3] 3) → Calls Tryz.prog 9 #[.slice ao row.length cap, .slice (some ⟨W0.heap.size, 0, none⟩) 4 4] W fun e w' => e = .returned (.bool q) ∧ Chg NoB W w') := Lib.hid fun W c hw => by
    rw [← hq]
    exact right_any row [1, 1, 1, 3] _ (fun _ => True) ao (some ⟨W0.heap.size, 0, none⟩) cap 4 hr1 W (RowAt.quiet R0.out (M0.out.c.trans c (fun _ h => .inl h))) ⟨_, _, rfl, fun _ => ⟨_, 0, rfl, lt_of_heap hw, trivial, range_block hw⟩⟩
  clear hq
  go_wp2_with fail
  refine (HRT.out _ ((Chg.refl _ _).alloc _) hal_new).mono ?_
  rintro e w3 ⟨rfl, c3⟩
  have M3 := Lib.hid (M0.out.quiet (((Chg.refl NoB W0).alloc _).trans c3 (fun _ h => .inl h)))
  clear c3 HRT M0
  cases q with
  | false =>
    go_wp2_with fail
    go_ret
    exact ⟨rfl, M3.out.c⟩
  | true =>
    have HROK : Hid (rowOk cols4 row) := Lib.hid ((right_iff cols4 row).1 HQ.out)
    obtain ⟨t, ty1, ty2⟩ := asked_ty HO.out
    have TY := Lib.hid ty1
    have EV : Hid (∀ (z : Ex) (s : Int) (Z : ExF) (W : World), tyL cols4 z = some s → Chg NoB w W → ExAt W (fun _ => True) z Z → Calls Tryz.prog 13 #[Z.val, .slice ao row.length cap] W fun e w' => e = .returned (.tuple #[(evalV row z).1.val, .int .i64 (evalV row z).2]) ∧ Chg NoB W w') := Lib.hid fun z s Z W hz c hzx =>
      eval_any cols4 row HROK.out ao cap z s hz Z _ F W hzx (RowAt.quiet R0.out c)
    have HP : Hid (PrintOk x ∧ x.hgt ≤ 32) := Lib.hid ⟨asked_print HO.out, (read_leaves (asked_read HO.out).1).2⟩
    have hpl : (printL x).length ≤ 1000000000000 := print_len' HP.out.1 HP.out.2
    have DP := Lib.hid (asked_dpar_any HO.out)
    have NP := Lib.hid (asked_npar HO.out)
    have EN := Lib.hid (eval_not HO.out HROK.out)
    clear ty1 ty2
    obtain ⟨v, e, hve⟩ : ∃ v e, evalV row y = (v, e) := ⟨_, _, rfl⟩
    have VE := Lib.hid hve
    have EVY : Hid (∀ (Z : ExF) (W : World), Chg NoB w W → ExAt W (fun _ => True) y Z → Calls Tryz.prog 13 #[Z.val, .slice ao row.length cap] W fun ee w' => ee = .returned (.tuple #[v.val, .int .i64 e]) ∧ Chg NoB W w') := Lib.hid fun Z W c hzx => by
      have := EV.out y t Z W TY.out c hzx
      rwa [hve] at this
    clear hve
    obtain ⟨a0, a1, a2, a3, a4, a5, a6, a7⟩ := ExCells.of M3.out.h6
    go_wp2_with fail
    refine (EVY.out B w3 M3.out.c M3.out.hy).mono ?_
    rintro e4 w4 ⟨rfl, c4⟩
    have M4 := Lib.hid (M3.out.quiet (c4.alloc v.obj))
    have V4 : Hid ((w4.alloc v.obj).heap[w4.heap.size]? = some v.obj) := Lib.hid hal_new
    clear c4 a0 a1 a2 a3 a4 a5 a6 a7 M3
    go_upto_region 7 with (fail)
    generalize hW : w4.alloc _ = W4
    rw [show w4.alloc v.obj = W4 from hW] at M4 V4
    generalize hb : w4.heap.size = b8 at V4 ⊢
    clear hW hb
    obtain ⟨a0, a1, a2, a3, a4, a5, a6, a7⟩ := ExCells.of M4.out.h5
    have HPR : Hid (Calls Tryz.prog 14 #[A.val] W4 fun e w' => e = .returned (sv (printL x)) ∧ Chg NoB W4 w') := Lib.hid (print_any 32 x A _ W4 HP.out.2 (Nat.le_refl _) HP.out.1 M4.out.hx (HG.out.quiet M4.out.c))
    go_wp2_with fail
    refine HPR.out.mono ?_
    rintro e5 w5 ⟨rfl, c5⟩
    have X5 := Lib.hid (M4.out.c.trans c5 (fun _ h => .inl h))
    have V5 := Lib.hid (c5.heap V4.out (fun h => h))
    clear c5 a0 a1 a2 a3 a4 a5 a6 a7 M4 V4 HPR
    have hdl : (dpar (printL x)).length ≤ 140737488355328 := by simp [dpar]; omega
    have hnl : (npar (printL x)).length ≤ 140737488355328 := by simp [npar]; omega
    have HDL := Lib.hid hdl
    have HNL := Lib.hid hnl
    have HPL := Lib.hid hpl
    clear hdl hnl
    go_wp2_with fail
    rw [dpar_sv]
    refine (HA.out (dpar (printL x)) w5 X5.out HDL.out).mono ?_
    rintro e6 w6 ⟨c6, A2, B2, rfl, hx6⟩
    rcases DP.out with hd | ⟨hd, hlong⟩
    · have M6 := Lib.hid (XMid.mk' X5.out c6 (hx6 x y hd))
      have V6 : Hid (((w6.alloc A2.obj).alloc B2.obj).heap[b8]? = some v.obj) := Lib.hid (((((Chg.refl NoB w6).alloc A2.obj).alloc B2.obj)).heap (c6.heap V5.out (fun h => h)) (fun h => h))
      rw [hd]
      clear hd hx6 c6 X5 V5
      go_upto_region 9 with (fail)
      generalize hW : (w6.alloc _).alloc _ = W6
      rw [show (w6.alloc A2.obj).alloc B2.obj = W6 from hW] at M6 V6
      generalize hb : w6.heap.size = b11 at M6 ⊢
      clear hW hb
      obtain ⟨a0, a1, a2, a3, a4, a5, a6, a7⟩ := ExCells.of M6.out.h6
      go_wp2_with fail
      refine (EVY.out B2 W6 M6.out.c M6.out.hy).mono ?_
      rintro e7 w7 ⟨rfl, c7⟩
      have X7 := Lib.hid (M6.out.c.trans (c7.alloc v.obj) (fun _ h => .inl h))
      have V7 := Lib.hid ((c7.alloc v.obj).heap V6.out (fun h => h))
      have U7 : Hid ((w7.alloc v.obj).heap[w7.heap.size]? = some v.obj) := Lib.hid hal_new
      clear c7 a0 a1 a2 a3 a4 a5 a6 a7 M6 V6
      go_upto_region 12 with (fail)
      generalize hW : w7.alloc _ = W7
      rw [show w7.alloc v.obj = W7 from hW] at X7 V7 U7
      generalize hb : w7.heap.size = b14 at U7 ⊢
      clear hW hb
      go_wp2_with fail
      rw [npar_sv]
      refine (HA.out (npar (printL x)) W7 X7.out HNL.out).mono ?_
      rintro e8 w8 ⟨c8, A3, B3, rfl, hx8⟩
      rcases NP.out with hn | hn
      · rw [hn]
        have X8 : Hid (∀ o o', Chg NoB w ((w8.alloc o).alloc o')) := Lib.hid fun o o' => ((X7.out.trans c8 (fun k h => h.elim)).alloc _).alloc _
        clear hn hx8 c8 X7 V7 U7
        go_wp2_with fail
        go_ret
        exact ⟨rfl, X8.out _ _⟩
      · have M8 := Lib.hid (XMid.mk' X7.out c8 (hx8 _ _ hn))
        have c89 := c8.trans (((Chg.refl NoB w8).alloc A3.obj).alloc B3.obj) (fun _ h => .inl h)
        have V8 := Lib.hid (c89.heap V7.out (fun h => h))
        have U8 := Lib.hid (c89.heap U7.out (fun h => h))
        obtain ⟨t4, ht4⟩ := not_ty hn
        have T4 := Lib.hid ht4
        rw [hn]
        clear hn hx8 c8 c89 X7 V7 U7 ht4
        go_upto_region 13 with (fail)
        generalize hW : (w8.alloc _).alloc _ = W8
        rw [show (w8.alloc A3.obj).alloc B3.obj = W8 from hW] at M8 V8 U8
        generalize hb : w8.heap.size = b16 at M8 ⊢
        clear hW hb
        obtain ⟨u, g, hug⟩ : ∃ u g, evalV row (.un 4 y) = (u, g) := ⟨_, _, rfl⟩
        have EVN : Hid (∀ (Z : ExF) (W : World), Chg NoB w W → ExAt W (fun _ => True) (.un 4 y) Z → Calls Tryz.prog 13 #[Z.val, .slice ao row.length cap] W fun ee w' => ee = .returned (.tuple #[u.val, .int .i64 g]) ∧ Chg NoB W w') := Lib.hid fun Z W c hzx => by
          have := EV.out (.un 4 y) t4 Z W T4.out c hzx
          rwa [hug] at this
        have hfin := EN.out
        rw [VE.out, hug] at hfin
        simp only at hfin
        obtain ⟨hge, hfin⟩ := hfin
        subst hge
        have FIN := Lib.hid hfin
        clear hug hfin EN
        obtain ⟨a0, a1, a2, a3, a4, a5, a6, a7⟩ := ExCells.of M8.out.h6
        go_wp2_with fail
        refine (EVN.out B3 W8 M8.out.c M8.out.hy).mono ?_
        rintro e9 w9 ⟨rfl, c9⟩
        have X9 := Lib.hid (M8.out.c.trans (c9.alloc u.obj) (fun _ h => .inl h))
        have V9 := Lib.hid ((c9.alloc u.obj).heap V8.out (fun h => h))
        have U9 := Lib.hid ((c9.alloc u.obj).heap U8.out (fun h => h))
        have N9 : Hid ((w9.alloc u.obj).heap[w9.heap.size]? = some u.obj) := Lib.hid hal_new
        clear c9 a0 a1 a2 a3 a4 a5 a6 a7 M8 V8 U8
        go_upto_region 16 with (fail)
        generalize hW : w9.alloc _ = W9
        rw [show w9.alloc u.obj = W9 from hW] at X9 V9 U9 N9
        generalize hb : w9.heap.size = b19 at N9 ⊢
        clear hW hb
        obtain ⟨v0, v1, v2⟩ := vobj_cells V9.out
        obtain ⟨u0, u1, u2⟩ := vobj_cells U9.out
        obtain ⟨n0, n1, n2⟩ := vobj_cells N9.out
        have bvv := isV_refl v
        have bee : (g != g) = false := by simp
        by_cases he : g = 0
        · subst he
          rcases FIN.out rfl with ⟨hv, hu⟩ | ⟨hv, hu, hne⟩
          · obtain ⟨vk, vn, vs⟩ := v
            obtain ⟨uk, un, us⟩ := u
            simp only at hv hu
            subst hv hu
            clear bee
            go_wp2_with fail
            go_ret
            exact ⟨rfl, X9.out⟩
          · obtain ⟨vk, vn, vs⟩ := v
            obtain ⟨uk, un, us⟩ := u
            simp only at hv hu hne
            subst hv hu
            have bne : (vn != un) = true := by simpa using hne
            clear bee hne
            go_wp2_with fail
            go_ret
            exact ⟨rfl, X9.out⟩
        · have bg : (g != 0) = true := by simpa using he
          have bg2 : (g == 0) = false := by simpa using he
          clear he
          go_wp2_with fail
          go_ret
          exact ⟨rfl, X9.out⟩
    · have X6 : Hid (∀ o o', Chg NoB w ((w6.alloc o).alloc o')) := Lib.hid fun o o' => ((X5.out.trans c6 (fun k h => h.elim)).alloc _).alloc _
      have bl : ((printL x).length : Int) > 2000 := by omega
      rw [hd]
      clear hd hx6 c6 X5 V5
      go_wp2_with fail
      go_ret
      exact ⟨by simp, X6.out _ _⟩
end Go.Proofs.YtnbckfkdmkbopaaGreatDoor

set_option autoImplicit false
namespace Go.Proofs.YtnbckfkdmkbopaaGreatDoor
open Go Go.RowKit

/-- a slice of what somebody else owns: element i's cell j -/
def SlRd (w : World) (ao : Option Addr) (len sz : Nat) (V : Nat → Nat → Value) : Prop :=
  0 < len → ∃ b o, ao = some ⟨b, o, none⟩ ∧ b < w.heap.size ∧ ∀ i j, i < len → j < sz → w.cell? ⟨b, o + i * sz + j, none⟩ = some (V i j)
theorem SlRd.chg {w w' : World} {F : Nat → Prop} {ao : Option Addr} {len sz : Nat} {V : Nat → Nat → Value} (h : SlRd w ao len sz V) (c : Chg F w w') (hF : ∀ b, b < w.heap.size → ¬ F b) : SlRd w' ao len sz V := by
  intro hl
  obtain ⟨b, o, rfl, hb, hc⟩ := h hl
  refine ⟨b, o, rfl, Nat.lt_of_lt_of_le hb c.size, fun i j hi hj => ?_⟩
  rw [cell_of_heap (c.keep b hb (hF b hb))]
  exact hc i j hi hj
end Go.Proofs.YtnbckfkdmkbopaaGreatDoor

set_option autoImplicit false
namespace Go.Proofs.YtnbckfkdmkbopaaGreatDoor
open Go.ChangeShapes Go.WideShapes Go.ChangeAt Go.RowKit Go.Deep

theorem own : ownKnob Tryz.prog.godebug = none := by kernel_rfl
theorem laidOut : laidOutB Tryz.prog = true := by kernel_rfl
theorem i64_of {V : Value} {H : Type} {enc : TypeId × Value → H} {w : World} {base : Nat} {spare : Nat → Bool} {held : Bool} {n t : Nat} {y : DataW H × List MemPlace} (ht : Tryz.prog.underlying t = some (.int .i64))
    (h : DataW.trod enc Tryz.prog w base spare held n t [V] = some y) : V = .int .i64 (intOf V) ∧ -9223372036854775808 ≤ intOf V ∧ intOf V ≤ 9223372036854775807 := by
  obtain ⟨a, e0, _, wa⟩ := DataW.trod_int ht h
  simp at e0
  subst e0
  refine ⟨rfl, ?_⟩
  simp [Lit.wf, IntKind.min, IntKind.max, IntKind.signed, IntKind.bits] at wa
  simpa [intOf] using wa
theorem u8_of {V : Value} {H : Type} {enc : TypeId × Value → H} {w : World} {base : Nat} {spare : Nat → Bool} {held : Bool} {n t : Nat} {y : DataW H × List MemPlace} (ht : Tryz.prog.underlying t = some (.int .u8))
    (h : DataW.trod enc Tryz.prog w base spare held n t [V] = some y) : V = .int .u8 (intOf V) ∧ 0 ≤ intOf V ∧ intOf V ≤ 255 := by
  obtain ⟨a, e0, _, wa⟩ := DataW.trod_int ht h
  simp at e0
  subst e0
  refine ⟨rfl, ?_⟩
  simp [Lit.wf, IntKind.min, IntKind.max, IntKind.signed, IntKind.bits] at wa
  simpa [intOf] using wa
theorem addr_plain {w : World} {a : Addr} {n : Nat} {v : Value} (h : w.cell? (a.add n) = some v) (hn : n = 0) : a = ⟨a.block, a.off, none⟩ := by
  subst hn
  obtain ⟨b, o, s⟩ := a
  have := World.cell?_spot h
  simp [Addr.add] at this
  subst this
  rfl

section
variable {H : Type} {enc : TypeId × Value → H} {w : World} {base : Nat} {spare : Nat → Bool} {held : Bool} {n t : Nat} {y : DataW H × List MemPlace}
theorem bool_of {V : Value} (ht : Tryz.prog.underlying t = some .bool) (h : DataW.trod enc Tryz.prog w base spare held n t [V] = some y) : ∃ b, V = .bool b := by
  obtain ⟨a, e0, _⟩ := DataW.trod_bool ht h
  simp at e0
  exact ⟨a, e0⟩
/-- a slice of one-celled elements -/
theorem slice1_rd {t e : TypeId} {ao : Option Addr} {len cap : Nat} (ht : Tryz.prog.underlying t = some (.slice e)) (ce : Tryz.prog.cellsOf e = 1) {p : Value → Prop} (hp : ∀ V n y, DataW.trod enc Tryz.prog w base (fun _ => true) held n e [V] = some y → p V)
    {x : DataW H × List MemPlace} {fuel : Nat} (h : DataW.trod enc Tryz.prog w base (fun _ => true) held fuel t (Value.slice ao len cap).cells.toList = some x) :
    ∃ V : Nat → Value, len ≤ maxLen ∧ SlRd w ao len 1 (fun i _ => V i) ∧ ∀ i, i < len → p (V i) := by
  rcases open_slice ht h with ⟨hcs, _⟩ | ⟨a, l, c, m, n, D, Pl, hcs, _, hl, hm, hmm, _, hc⟩
  · simp [Value.cells] at hcs
    obtain ⟨rfl, rfl, rfl⟩ := hcs
    exact ⟨fun _ => undef, Nat.zero_le _, fun h => by omega, fun i hi => by omega⟩
  · simp [Value.cells] at hcs
    obtain ⟨rfl, rfl, rfl⟩ := hcs
    simp only [if_true] at hmm
    have each : ∀ i, i < len → ∃ V, w.cell? (a.add i) = some V ∧ p V := by
      intro i hi
      obtain ⟨cs', h1, h2⟩ := hc i (by omega)
      rw [ce, Nat.mul_one] at h1
      obtain ⟨_, hlen, hcell⟩ := World.cells?_some h1
      match cs', hlen with
      | [v], _ =>
        have := hcell 0 (by omega)
        simp only [Addr.add_zero', List.getElem?_cons_zero] at this
        exact ⟨v, this, hp v _ _ h2⟩
    obtain ⟨V, hV⟩ := choose_lt each
    refine ⟨V, by omega, fun hpos => ?_, fun i hi => (hV i hi).2⟩
    have hz := (hV 0 hpos).1
    have ha := addr_plain hz rfl
    refine ⟨a.block, a.off, by rw [← ha], by have := World.block_lt_of_cell? w _ hz; rw [ha] at this; simpa [Addr.add] using this, fun i j hi hj => ?_⟩
    have := (hV i hi).1
    rw [ha, Addr.add_mid] at this
    have e : j = 0 := by omega
    subst e
    simpa using this
end
end Go.Proofs.YtnbckfkdmkbopaaGreatDoor
