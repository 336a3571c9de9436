/-
  The parser's atom. No condition beyond each lemma's own.
  The parser's atom: names, keywords, parentheses; and all of it. No condition beyond each lemma's own.
-/
import Derived.Test.YtnbckfkdmkbopaaGreatDoorTH14
set_option autoImplicit false
namespace Go.Proofs.YtnbckfkdmkbopaaGreatDoor
open Go Go.RowKit

theorem takeT_at {k : Int} {t : Tok} {r : List Tok} (h : t.kind = k) : takeT k (t :: r) = some (t, r) := by simp [takeT, h]
/-- what a walk reads of the first token -/
theorem PAt.cells {w : World} {p tb : Nat} {t : Tok} {r : List Tok} (h : PAt w p tb (t :: r)) : ∃ o c, r.length + 1 ≤ c ∧ w.heap[p]? = some (.cells #[.slice (some ⟨tb, o, none⟩) (r.length + 1) c] 101 (0, 0)) ∧ w.rangeAt tb o t.cells ∧ w.rangeAt tb (o + 3) (tokCells r) := by
  obtain ⟨htl, htp, ao, c, hc, hh, ht⟩ := h
  obtain ⟨b, o, c', e, hb, rfl, hr, hr2⟩ := ToksAt.head ht
  simp only [List.length_cons, Value.slice.injEq] at e
  obtain ⟨rfl, _, rfl⟩ := e
  exact ⟨o, c, hc, hh, hr, hr2⟩
set_option maxRecDepth 100000 in
set_option maxHeartbeats 4000000 in
theorem atom_nil (g : Ptree) (p tb : Nat) (w : World) (h : PAt w p tb []) : Calls Tryz.prog 183 #[.pointer (some ⟨p, 0, none⟩)] w (POut (atomP g []) p tb w) := by
  have h1 := h.quiet ((Chg.refl NoB w).alloc zeroE.obj)
  obtain ⟨_, _, ao, c, hc, hh, ht⟩ := h1
  have c0 : (w.alloc zeroE.obj).cell? ⟨p, 0, none⟩ = some (.slice ao 0 c) := cell_of_row _ p 0 _ _ _ hh
  clear hh ht hc h
  go_enter Tryz.func183, Tryz.ntmps183
  go_wp2_with (go_at_call 40; refine (must_false _ _).mono ?_; rintro e w' ⟨rfl, rfl⟩)
  exact ⟨rfl, POut.no rfl ((Chg.refl _ _).alloc _)⟩
set_option maxRecDepth 100000 in
set_option maxHeartbeats 4000000 in
theorem atom_number (g : Ptree) (p tb : Nat) (tt : Str) (tn : Int) (r : List Tok) (w : World) (h : PAt w p tb (⟨3, tt, tn⟩ :: r)) : Calls Tryz.prog 183 #[.pointer (some ⟨p, 0, none⟩)] w (POut (atomP g (⟨3, tt, tn⟩ :: r)) p tb w) := by
  have hpl := h.lt
  have htl := h.tl
  have hcc := h.cells
  obtain ⟨o, c, hc, hh, hr, hr2⟩ := hcc
  have hal : ∀ x, x < w.heap.size → (w.alloc zeroE.obj).heap[x]? = w.heap[x]? := fun x hx => hal_old hx
  have c0 : (w.alloc zeroE.obj).cell? ⟨p, 0, none⟩ = some (.slice (some ⟨tb, o, none⟩) (r.length + 1) c) := cell_of_row _ p 0 _ _ _ ((hal p hpl).trans hh)
  have f0 : (w.alloc zeroE.obj).frozen? ⟨p, 0, none⟩ = false := frozen_of_row _ p 0 _ _ ((hal p hpl).trans hh)
  have q0 : (w.alloc zeroE.obj).cell? ⟨tb, o, none⟩ = some (.int .i64 3) := (cell_of_heap (hal tb htl)).trans (hr 0 _ rfl)
  have q1 : (w.alloc zeroE.obj).cell? ⟨tb, o + 1, none⟩ = some (sv tt) := (cell_of_heap (hal tb htl)).trans (hr 1 _ rfl)
  have q2 : (w.alloc zeroE.obj).cell? ⟨tb, o + 2, none⟩ = some (.int .i64 tn) := (cell_of_heap (hal tb htl)).trans (hr 2 _ rfl)
  have hz2 : (0 : Int) < (r.length : Int) + 1 := by omega
  have HR := Lib.hid hr2
  have HBP := Lib.hid h.2.1
  have HX : Hid (∀ v o1 o2, Chg (OneP p) w (((w.setCell ⟨p, 0, none⟩ v).alloc o1).alloc o2)) := Lib.hid fun v o1 o2 => (((Chg.refl (OneP p) w).setCell (p := ⟨p, 0, none⟩) (.inl rfl) v).alloc _).alloc _
  have HV : Hid (∀ v o1 o2, (((w.setCell ⟨p, 0, none⟩ v).alloc o1).alloc o2).heap[p]? = some (.cells #[v] 101 (0, 0))) := Lib.hid fun v o1 o2 => by
    rw [hal_old (by simp; omega), hal_old (by simpa using hpl)]
    exact hset_eq (i := 0) hh
  have HW : Hid (∀ v o1 o2, (((w.setCell ⟨p, 0, none⟩ v).alloc o1).alloc o2).heap[w.heap.size]? = some o1) := Lib.hid fun v o1 o2 => by
    rw [hal_old (by simp), hal_new' (by simp)]
  clear h hr hr2 hh hal
  by_cases h1c : c = 1
  · subst h1c
    obtain rfl : r = [] := List.eq_nil_of_length_eq_zero (by omega)
    go_enter Tryz.func183, Tryz.ntmps183
    go_wp2_with fail
    refine (must_true _ _).mono ?_
    rintro e w' ⟨rfl, rfl⟩
    go_wp2_with fail
    refine (literal_any ⟨1, tn, []⟩ _).mono ?_
    rintro e w5 ⟨rfl, x5⟩
    have hpt := tail_at htl HBP.out HR.out hc (HX.out _ zeroE.obj (.cells #[.int .i64 3, sv tt, .int .i64 tn] 133)) (by rw [if_pos rfl]; exact HV.out _ _ _)
    have P5 := Lib.hid (hpt.quiet x5)
    have X5 : Hid (Chg (OneP p) w w5) := Lib.hid ((HX.out _ _ _).trans x5 (fun _ h => h.elim))
    have Z5 : Hid (w5.heap[w.heap.size]? = some (ExF.obj ⟨0, 0, 0, [], [], [], 0, none, 0, 0⟩)) := Lib.hid (x5.heap (HW.out _ zeroE.obj _) (fun h => h))
    clear x5 hpt
    obtain ⟨z0, z1, z2, z3, z4, z5, z6, z7⟩ := ExCells.of Z5.out
    have fz : ∀ o, w5.frozen? ⟨w.heap.size, o, none⟩ = false := fun o => frozen_of_row w5 _ o _ _ Z5.out
    go_wp2
    exact pout_ret (E := ⟨1, 1, tn, [], [], [], 0, none, 0, 0⟩) (x := .val ⟨1, tn, []⟩) (ts := []) rfl rfl rfl X5.out Z5.out rfl P5.out hpl htl
  · go_enter Tryz.func183, Tryz.ntmps183
    go_wp2_with fail
    refine (must_true _ _).mono ?_
    rintro e w' ⟨rfl, rfl⟩
    go_wp2_with fail
    refine (literal_any ⟨1, tn, []⟩ _).mono ?_
    rintro e w5 ⟨rfl, x5⟩
    have hpt := tail_at htl HBP.out HR.out hc (HX.out _ zeroE.obj (.cells #[.int .i64 3, sv tt, .int .i64 tn] 133)) (by rw [if_neg h1c]; exact HV.out _ _ _)
    have P5 := Lib.hid (hpt.quiet x5)
    have X5 : Hid (Chg (OneP p) w w5) := Lib.hid ((HX.out _ _ _).trans x5 (fun _ h => h.elim))
    have Z5 : Hid (w5.heap[w.heap.size]? = some (ExF.obj ⟨0, 0, 0, [], [], [], 0, none, 0, 0⟩)) := Lib.hid (x5.heap (HW.out _ zeroE.obj _) (fun h => h))
    clear x5 hpt
    obtain ⟨z0, z1, z2, z3, z4, z5, z6, z7⟩ := ExCells.of Z5.out
    have fz : ∀ o, w5.frozen? ⟨w.heap.size, o, none⟩ = false := fun o => frozen_of_row w5 _ o _ _ Z5.out
    go_wp2
    exact pout_ret (E := ⟨1, 1, tn, [], [], [], 0, none, 0, 0⟩) (x := .val ⟨1, tn, []⟩) (ts := r) rfl rfl rfl X5.out Z5.out rfl P5.out hpl htl
set_option maxRecDepth 100000 in
set_option maxHeartbeats 4000000 in
theorem atom_text (g : Ptree) (p tb : Nat) (tt : Str) (tn : Int) (r : List Tok) (w : World) (h : PAt w p tb (⟨4, tt, tn⟩ :: r)) : Calls Tryz.prog 183 #[.pointer (some ⟨p, 0, none⟩)] w (POut (atomP g (⟨4, tt, tn⟩ :: r)) p tb w) := by
  have hpl := h.lt
  have htl := h.tl
  have hcc := h.cells
  obtain ⟨o, c, hc, hh, hr, hr2⟩ := hcc
  have hal : ∀ x, x < w.heap.size → (w.alloc zeroE.obj).heap[x]? = w.heap[x]? := fun x hx => hal_old hx
  have c0 : (w.alloc zeroE.obj).cell? ⟨p, 0, none⟩ = some (.slice (some ⟨tb, o, none⟩) (r.length + 1) c) := cell_of_row _ p 0 _ _ _ ((hal p hpl).trans hh)
  have f0 : (w.alloc zeroE.obj).frozen? ⟨p, 0, none⟩ = false := frozen_of_row _ p 0 _ _ ((hal p hpl).trans hh)
  have q0 : (w.alloc zeroE.obj).cell? ⟨tb, o, none⟩ = some (.int .i64 4) := (cell_of_heap (hal tb htl)).trans (hr 0 _ rfl)
  have q1 : (w.alloc zeroE.obj).cell? ⟨tb, o + 1, none⟩ = some (sv tt) := (cell_of_heap (hal tb htl)).trans (hr 1 _ rfl)
  have q2 : (w.alloc zeroE.obj).cell? ⟨tb, o + 2, none⟩ = some (.int .i64 tn) := (cell_of_heap (hal tb htl)).trans (hr 2 _ rfl)
  have hz2 : (0 : Int) < (r.length : Int) + 1 := by omega
  have HR := Lib.hid hr2
  have HBP := Lib.hid h.2.1
  have HX : Hid (∀ v o1 o2, Chg (OneP p) w (((w.setCell ⟨p, 0, none⟩ v).alloc o1).alloc o2)) := Lib.hid fun v o1 o2 => (((Chg.refl (OneP p) w).setCell (p := ⟨p, 0, none⟩) (.inl rfl) v).alloc _).alloc _
  have HV : Hid (∀ v o1 o2, (((w.setCell ⟨p, 0, none⟩ v).alloc o1).alloc o2).heap[p]? = some (.cells #[v] 101 (0, 0))) := Lib.hid fun v o1 o2 => by
    rw [hal_old (by simp; omega), hal_old (by simpa using hpl)]
    exact hset_eq (i := 0) hh
  have HW : Hid (∀ v o1 o2, (((w.setCell ⟨p, 0, none⟩ v).alloc o1).alloc o2).heap[w.heap.size]? = some o1) := Lib.hid fun v o1 o2 => by
    rw [hal_old (by simp), hal_new' (by simp)]
  clear h hr hr2 hh hal
  by_cases h1c : c = 1
  · subst h1c
    obtain rfl : r = [] := List.eq_nil_of_length_eq_zero (by omega)
    go_enter Tryz.func183, Tryz.ntmps183
    go_wp2_with fail
    refine (must_true _ _).mono ?_
    rintro e w' ⟨rfl, rfl⟩
    go_wp2_with fail
    refine (literal_any ⟨3, 0, tt⟩ _).mono ?_
    rintro e w5 ⟨rfl, x5⟩
    have hpt := tail_at htl HBP.out HR.out hc (HX.out _ zeroE.obj (.cells #[.int .i64 4, sv tt, .int .i64 tn] 133)) (by rw [if_pos rfl]; exact HV.out _ _ _)
    have P5 := Lib.hid (hpt.quiet x5)
    have X5 : Hid (Chg (OneP p) w w5) := Lib.hid ((HX.out _ _ _).trans x5 (fun _ h => h.elim))
    have Z5 : Hid (w5.heap[w.heap.size]? = some (ExF.obj ⟨0, 0, 0, [], [], [], 0, none, 0, 0⟩)) := Lib.hid (x5.heap (HW.out _ zeroE.obj _) (fun h => h))
    clear x5 hpt
    obtain ⟨z0, z1, z2, z3, z4, z5, z6, z7⟩ := ExCells.of Z5.out
    have fz : ∀ o, w5.frozen? ⟨w.heap.size, o, none⟩ = false := fun o => frozen_of_row w5 _ o _ _ Z5.out
    go_wp2
    exact pout_ret (E := ⟨1, 3, 0, tt, [], [], 0, none, 0, 0⟩) (x := .val ⟨3, 0, tt⟩) (ts := []) rfl rfl rfl X5.out Z5.out rfl P5.out hpl htl
  · go_enter Tryz.func183, Tryz.ntmps183
    go_wp2_with fail
    refine (must_true _ _).mono ?_
    rintro e w' ⟨rfl, rfl⟩
    go_wp2_with fail
    refine (literal_any ⟨3, 0, tt⟩ _).mono ?_
    rintro e w5 ⟨rfl, x5⟩
    have hpt := tail_at htl HBP.out HR.out hc (HX.out _ zeroE.obj (.cells #[.int .i64 4, sv tt, .int .i64 tn] 133)) (by rw [if_neg h1c]; exact HV.out _ _ _)
    have P5 := Lib.hid (hpt.quiet x5)
    have X5 : Hid (Chg (OneP p) w w5) := Lib.hid ((HX.out _ _ _).trans x5 (fun _ h => h.elim))
    have Z5 : Hid (w5.heap[w.heap.size]? = some (ExF.obj ⟨0, 0, 0, [], [], [], 0, none, 0, 0⟩)) := Lib.hid (x5.heap (HW.out _ zeroE.obj _) (fun h => h))
    clear x5 hpt
    obtain ⟨z0, z1, z2, z3, z4, z5, z6, z7⟩ := ExCells.of Z5.out
    have fz : ∀ o, w5.frozen? ⟨w.heap.size, o, none⟩ = false := fun o => frozen_of_row w5 _ o _ _ Z5.out
    go_wp2
    exact pout_ret (E := ⟨1, 3, 0, tt, [], [], 0, none, 0, 0⟩) (x := .val ⟨3, 0, tt⟩) (ts := r) rfl rfl rfl X5.out Z5.out rfl P5.out hpl htl
end Go.Proofs.YtnbckfkdmkbopaaGreatDoor

set_option autoImplicit false
namespace Go.Proofs.YtnbckfkdmkbopaaGreatDoor
open Go Go.RowKit

set_option maxRecDepth 100000 in
set_option maxHeartbeats 4000000 in
theorem atom_name (g : Ptree) (p tb : Nat) (tt : Str) (tn : Int) (r : List Tok) (w : World) (h : PAt w p tb (⟨2, tt, tn⟩ :: r)) : Calls Tryz.prog 183 #[.pointer (some ⟨p, 0, none⟩)] w (POut (atomP g (⟨2, tt, tn⟩ :: r)) p tb w) := by
  have hpl := h.lt
  have htl := h.tl
  have hcc := h.cells
  obtain ⟨o, c, hc, hh, hr, hr2⟩ := hcc
  have hal : ∀ x, x < w.heap.size → (w.alloc zeroE.obj).heap[x]? = w.heap[x]? := fun x hx => hal_old hx
  have c0 : (w.alloc zeroE.obj).cell? ⟨p, 0, none⟩ = some (.slice (some ⟨tb, o, none⟩) (r.length + 1) c) := cell_of_row _ p 0 _ _ _ ((hal p hpl).trans hh)
  have f0 : (w.alloc zeroE.obj).frozen? ⟨p, 0, none⟩ = false := frozen_of_row _ p 0 _ _ ((hal p hpl).trans hh)
  have q0 : (w.alloc zeroE.obj).cell? ⟨tb, o, none⟩ = some (.int .i64 2) := (cell_of_heap (hal tb htl)).trans (hr 0 _ rfl)
  have q1 : (w.alloc zeroE.obj).cell? ⟨tb, o + 1, none⟩ = some (sv tt) := (cell_of_heap (hal tb htl)).trans (hr 1 _ rfl)
  have q2 : (w.alloc zeroE.obj).cell? ⟨tb, o + 2, none⟩ = some (.int .i64 tn) := (cell_of_heap (hal tb htl)).trans (hr 2 _ rfl)
  have hz2 : (0 : Int) < (r.length : Int) + 1 := by omega
  have XT : Chg NoB w _ := ((Chg.refl NoB w).alloc zeroE.obj).alloc (.cells #[.int .i64 2, sv tt, .int .i64 tn] 133)
  have PT := Lib.hid (h.quiet XT)
  have XT0 : Hid (Chg NoB w ((w.alloc zeroE.obj).alloc (.cells #[.int .i64 2, sv tt, .int .i64 tn] 133))) := Lib.hid XT
  have ZT : Hid (((w.alloc zeroE.obj).alloc (.cells #[.int .i64 2, sv tt, .int .i64 tn] 133)).heap[w.heap.size]? = some zeroE.obj) := Lib.hid ((hal_old (by simp)).trans hal_new)
  clear h hr hr2 hh hal XT
  go_enter Tryz.func183, Tryz.ntmps183
  go_wp2_with fail
  refine (must_true _ _).mono ?_
  rintro e w' ⟨rfl, rfl⟩
  go_wp2_with fail
  refine (pname_yes PT.out (takeT_at rfl)).mono ?_
  rintro e w2 ⟨rfl, HS2⟩
  have X2 : Hid (Chg (OneP p) w w2) := Lib.hid ((chg_no XT0.out).trans HS2.out.2 (fun _ h => .inl h))
  have Z2 : Hid (w2.heap[w.heap.size]? = some zeroE.obj) := Lib.hid (HS2.out.2.heap ZT.out (by unfold OneP; omega))
  have hz3 := lt_of_heap Z2.out
  have XB : Chg NoB w2 _ := (Chg.refl NoB w2).alloc (ExF.obj ⟨2, 0, 0, [], [], tt, 0, none, 0, 0⟩)
  have P3 := Lib.hid (HS2.out.1.quiet XB)
  have X3 : Hid (Chg (OneP p) w (w2.alloc (ExF.obj ⟨2, 0, 0, [], [], tt, 0, none, 0, 0⟩))) := Lib.hid (X2.out.trans XB (fun _ h => h.elim))
  have Z3 : Hid ((w2.alloc (ExF.obj ⟨2, 0, 0, [], [], tt, 0, none, 0, 0⟩)).heap[w.heap.size]? = some zeroE.obj) := Lib.hid (XB.heap Z2.out (fun h => h))
  have B3 : Hid ((w2.alloc (ExF.obj ⟨2, 0, 0, [], [], tt, 0, none, 0, 0⟩)).heap[w2.heap.size]? = some (ExF.obj ⟨2, 0, 0, [], [], tt, 0, none, 0, 0⟩)) := Lib.hid hal_new
  clear XB
  obtain ⟨q, hq⟩ : ∃ q, nextT 5 [46] r = q := ⟨_, rfl⟩
  have HQ := Lib.hid hq
  clear hq
  rcases q with _ | r1
  · go_wp2_with fail
    refine (sign_no P3.out HQ.out).mono ?_
    rintro e w' ⟨rfl, rfl⟩
    generalize hW : w2.alloc _ = W
    have hW' : w2.alloc (ExF.obj ⟨2, 0, 0, [], [], tt, 0, none, 0, 0⟩) = W := hW
    rw [hW'] at P3 X3 Z3 B3
    clear hW hW'
    obtain ⟨y0, y1, y2, y3, y4, y5, y6, y7⟩ := ExCells.of B3.out
    obtain ⟨z0, z1, z2, z3, z4, z5, z6, z7⟩ := ExCells.of Z3.out
    have fz : ∀ o, W.frozen? ⟨w.heap.size, o, none⟩ = false := fun o => frozen_of_row W _ o _ _ Z3.out
    go_wp2
    exact pout_ret (E := ⟨2, 0, 0, [], [], tt, 0, none, 0, 0⟩) (x := .col [] tt) (ts := r) rfl rfl (by simp only [atomP]; simp [HQ.out]) X3.out Z3.out rfl P3.out hpl htl
  · go_wp2_with fail
    refine (sign_yes P3.out HQ.out).mono ?_
    rintro e w4 ⟨rfl, HS4⟩
    have X4 : Hid (Chg (OneP p) w w4) := Lib.hid (X3.out.trans HS4.out.2 (fun _ h => .inl h))
    have Z4 : Hid (w4.heap[w.heap.size]? = some zeroE.obj) := Lib.hid (HS4.out.2.heap Z3.out (by unfold OneP; omega))
    have B4 : Hid (w4.heap[w2.heap.size]? = some (ExF.obj ⟨2, 0, 0, [], [], tt, 0, none, 0, 0⟩)) := Lib.hid (HS4.out.2.heap B3.out (by unfold OneP; omega))
    have hpx : ¬ w2.heap.size = p := by omega
    have HS : Hid (∀ V, Chg (OneP p) w4 V → V.cell? ⟨w2.heap.size, 5, none⟩ = some (sv tt)) := Lib.hid fun V hV => cell_of_row V _ 5 _ _ _ (hV.heap B4.out hpx)
    go_wp2_with fail
    refine wp_region_lexU (fun V => V.cell? ⟨w2.heap.size, 5, none⟩ = some (sv tt)) [7] [3, 5, 7] [0, 1, 2, 4, 3, 5, 6, 7] (by kernel_rfl) (by kernel_rfl) (HS.out _ (Chg.refl _ _).drew) ?_
    iterate 4
      refine' lexU_free (v := _) rfl rfl rfl ?_ (fun _ _ _ h => h) ?_
      rotate_left
      · rintro W hW1
        go_simp
        with_reducible rfl
      try simp only [Act.put, List.setIfInBounds_toArray, List.set_cons_zero, List.set_cons_succ]
    refine lexU_op rfl rfl rfl (fun K hK => ?_)
    go_simp
    obtain ⟨q2, hq2⟩ : ∃ q2, takeT 2 r1 = q2 := ⟨_, rfl⟩
    have HQ2 := Lib.hid hq2
    clear hq2
    rcases q2 with _ | ⟨u, r2⟩
    · refine (pname_no (HS4.out.1.quiet (Chg.refl _ _).drew) HQ2.out).mono ?_
      rintro e w5 ⟨rfl, x5⟩
      refine ⟨rfl, POut.no ?_ ((X4.out.drew).trans x5 (fun _ h => h.elim))⟩
      simp only [atomP]
      rcases takeT_none HQ2.out with e | ⟨u, r2, e, hk⟩
      · rw [e] at HQ; simp [HQ.out]
      · rw [e] at HQ; simp [HQ.out, hk]
    · refine (pname_yes (HS4.out.1.quiet (Chg.refl _ _).drew) HQ2.out).mono ?_
      rintro e w5 ⟨rfl, HS5⟩
      have X45 : Hid (Chg (OneP p) w4 w5) := Lib.hid ((Chg.refl (OneP p) w4).drew.trans HS5.out.2 (fun _ h => .inl h))
      have X5 : Hid (Chg (OneP p) w w5) := Lib.hid (X4.out.trans X45.out (fun _ h => .inl h))
      have Z5 : Hid (w5.heap[w.heap.size]? = some zeroE.obj) := Lib.hid (X45.out.heap Z4.out (by unfold OneP; omega))
      have B5 : Hid (w5.heap[w2.heap.size]? = some (ExF.obj ⟨2, 0, 0, [], [], tt, 0, none, 0, 0⟩)) := Lib.hid (X45.out.heap B4.out (by unfold OneP; omega))
      refine hK _ _ (fun _ => HS.out w5 X45.out) ?_
      clear hK K
      try simp only [Act.put, List.setIfInBounds_toArray, List.set_cons_zero, List.set_cons_succ]
      obtain ⟨y0, y1, y2, y3, y4, y5, y6, y7⟩ := ExCells.of B5.out
      have fy : ∀ o, w5.frozen? ⟨w2.heap.size, o, none⟩ = false := fun o => frozen_of_row w5 _ o _ _ B5.out
      refine lexU_op rfl rfl rfl (fun K hK => ?_)
      go_simp
      refine hK _ _ (fun _ => cell_of_row (w5.setCell ⟨w2.heap.size, 4, none⟩ (sv tt)) _ 5 _ _ _ (hset_eq (i := 4) (v := sv tt) B5.out)) ?_
      clear hK K
      try simp only [Act.put, List.setIfInBounds_toArray, List.set_cons_zero, List.set_cons_succ]
      iterate 1
        refine' lexU_free (v := _) rfl rfl rfl ?_ (fun _ _ _ h => h) ?_
        rotate_left
        · rintro W hW1
          go_simp
          with_reducible rfl
        try simp only [Act.put, List.setIfInBounds_toArray, List.set_cons_zero, List.set_cons_succ]
      refine lexU_op rfl rfl rfl (fun K hK => ?_)
      go_simp
      refine hK _ _ (fun h => by cases h) ?_
      clear hK K
      try simp only [Act.put, List.setIfInBounds_toArray, List.set_cons_zero, List.set_cons_succ]
      refine lexU_nil ?_
      generalize hW : World.setCell (World.setCell w5 _ _) _ _ = W9
      have B9 : Hid (W9.heap[w2.heap.size]? = some (ExF.obj ⟨2, 0, 0, [], tt, u.text, 0, none, 0, 0⟩)) := Lib.hid (by
        rw [← hW]
        have h0 := hset_eq (i := 4) (v := sv tt) B5.out
        exact hset_eq (i := 5) (v := sv u.text) h0)
      have c9 : Chg (OneP w2.heap.size) w5 W9 := by rw [← hW]; exact ((Chg.refl (OneP w2.heap.size) w5).setCell (p := ⟨w2.heap.size, 4, none⟩) (.inl rfl) _).setCell (p := ⟨w2.heap.size, 5, none⟩) (.inl rfl) _
      have X9 : Hid (Chg (OneP p) w W9) := Lib.hid (X5.out.trans c9 (fun q h => .inr (by unfold OneP at h; omega)))
      have Z9 : Hid (W9.heap[w.heap.size]? = some zeroE.obj) := Lib.hid (c9.heap Z5.out (by unfold OneP; omega))
      have P9 := Lib.hid (HS5.out.1.chg c9 (by unfold OneP; omega) (by unfold OneP; omega))
      clear hW c9 y0 y1 y2 y3 y4 y5 y6 y7 fy
      obtain ⟨y0, y1, y2, y3, y4, y5, y6, y7⟩ := ExCells.of B9.out
      obtain ⟨z0, z1, z2, z3, z4, z5, z6, z7⟩ := ExCells.of Z9.out
      have fz : ∀ o, W9.frozen? ⟨w.heap.size, o, none⟩ = false := fun o => frozen_of_row W9 _ o _ _ Z9.out
      have HF : Hid (atomP g (⟨2, tt, tn⟩ :: r) = some (.col tt u.text, r2)) := Lib.hid (by
        obtain ⟨e, hk⟩ := takeT_some HQ2.out
        simp only [atomP]
        rw [e] at HQ
        simp [HQ.out, hk])
      go_wp2
      exact pout_ret (E := ⟨2, 0, 0, [], tt, u.text, 0, none, 0, 0⟩) rfl rfl HF.out X9.out Z9.out rfl P9.out hpl htl
end Go.Proofs.YtnbckfkdmkbopaaGreatDoor
