/-
  Evaluation: what has two kids; find, whole. No condition beyond each lemma's own.
-/
import Derived.Test.YtnbckfkdmkbopaaGreatDoorTH24
set_option autoImplicit false
namespace Go.Proofs.YtnbckfkdmkbopaaGreatDoor
open Go Go.RowKit

theorem ex_two {w : World} {b : Nat} {A B : ExF} (h : w.rangeAt b 0 (ExF.cells A ++ ExF.cells B)) : w.rangeAt b 0 (ExF.cells A) ∧ w.rangeAt b 8 (ExF.cells B) := by
  refine ⟨fun i v hi => h i v (by rw [List.getElem?_append_left (by have := (List.getElem?_eq_some_iff.1 hi).1; simpa using this)]; exact hi), fun i q hi => ?_⟩
  have := h (8 + i) q (by rw [List.getElem?_append_right (by simp)]; simpa using hi)
  simpa [Nat.add_assoc] using this
/-- what two kids come to, where none is AND or OR -/
def twoL (k : Int) (v : Val) (u : Val × Int) : Val × Int :=
  if u.2 ≠ 0 then (Val.null, u.2)
  else if v.kind == 0 || u.1.kind == 0 then (Val.null, u.2)
  else if k ≤ 9 then
    match numL2 k v.num u.1.num with
    | .ok n => (intV n, u.2)
    | .error q => (Val.null, q)
  else (truthV (cmpB k (cmpV v u.1)), u.2)
theorem find_bin (row : List Val) (k : Int) (a b : Ex) (e : Int) (v : Val) (e1 : Int) (h : findV row a e = (v, e1)) : findV row (.bin k a b) e = if 16 ≤ k then (if e1 ≠ 0 then (v, e1) else logL (truthV (k == 17)) v (findV row b 0)) else twoL k v (findV row b e1) := by
  simp only [findV, h]
  by_cases h16 : 16 ≤ k
  · rw [if_pos h16, if_pos h16]
    by_cases he : e1 = 0
    · subst he
      simp only [logL]
      try rfl
    · rw [if_pos he, if_pos he]
  · rw [if_neg h16, if_neg h16]
    rfl
set_option maxRecDepth 100000 in
set_option maxHeartbeats 2000000 in
theorem two_any (cs : List Bcol) (row : List Val) (hrow : rowOk cs row) (p : Nat) (rv : Value) (k : Int) (a b : Ex) (t s s2 : Int) (hk : binK k = true) (hta : tyL cs a = some s) (htb : tyL cs b = some s2) (htk : typedL k [s, s2] = some t) (ih : FindOk row p rv a) (ih2 : FindOk row p rv b)
    (E : ExF) (e0 : Int) (w : World) (hx : ExAt w (NotP p) (.bin k a b) E) (h : FnAt w p rv e0) (hr : ValsAt w (NotP p) rv row) : Calls Tryz.prog 58 #[.pointer (some ⟨p, 0, none⟩), E.val] w (EOut (findV row (.bin k a b) e0) p rv w) := by
  have HX := Lib.hid hx
  obtain ⟨bb, c, A, B, rfl, hb, hF, hrg, hxa, hxb⟩ := hx
  have hfit := fits_find cs row hrow a s e0 hta
  obtain ⟨⟨v, e1⟩, hv⟩ : ∃ q, findV row a e0 = q := ⟨_, rfl⟩
  have HS := Lib.hid (find_bin row k a b e0 v e1 hv)
  rw [hv] at hfit
  have hl := lt_of_heap h
  have X0 : Hid (Chg NoB w ((w.alloc (ExF.obj ⟨k, 0, 0, [], [], [], 0, some ⟨bb, 0, none⟩, 2, c⟩)).alloc Val.null.obj)) := Lib.hid (((Chg.refl NoB w).alloc _).alloc _)
  have A0 : Hid (((w.alloc (ExF.obj ⟨k, 0, 0, [], [], [], 0, some ⟨bb, 0, none⟩, 2, c⟩)).alloc Val.null.obj).heap[w.heap.size]? = some (ExF.obj ⟨k, 0, 0, [], [], [], 0, some ⟨bb, 0, none⟩, 2, c⟩)) := Lib.hid ((hal_old (by simp)).trans hal_new)
  have Z0 : Hid (((w.alloc (ExF.obj ⟨k, 0, 0, [], [], [], 0, some ⟨bb, 0, none⟩, 2, c⟩)).alloc Val.null.obj).heap[w.heap.size + 1]? = some Val.null.obj) := Lib.hid (hal_new' (by simp))
  have XA := Lib.hid (hxa.quiet X0.out)
  have F0 := Lib.hid (FnAt.quiet h X0.out)
  have R0 := Lib.hid (RowAt.quiet hr X0.out)
  have HR : Hid (∀ V, Chg (OneP p) w V → V.rangeAt bb 8 (ExF.cells B)) := Lib.hid fun V cV => range_of_heap (cV.keep bb hb hF) (ex_two hrg).2
  obtain ⟨k0, k1, k2, k3, k4, k5, k6, k7⟩ := ex_range (ex_two hrg).1
  have HI := Lib.hid ih
  have HI2 := Lib.hid ih2
  have HV := Lib.hid hv
  have HFit := Lib.hid hfit
  have HK := Lib.hid hk
  have HT := Lib.hid htk
  have HTB := Lib.hid htb
  have HRow := Lib.hid hrow
  have XBW := Lib.hid hxb
  have RW := Lib.hid hr
  clear h hr hxa hxb hrg ih ih2 hv hfit hk htk hta htb hrow
  go_enter Tryz.func58, Tryz.ntmps58
  go_wp2_with fail
  refine (HI.out A e0 _ XA.out F0.out R0.out).mono ?_
  rw [HV.out]
  rintro e w1 ⟨rfl, c1, f1⟩
  have X1 : Hid (Chg (OneP p) w w1) := Lib.hid ((chg_oneP X0.out).trans c1 (fun k h => .inl h))
  have X2 : Hid (Chg (OneP p) w (w1.alloc v.obj)) := Lib.hid (X1.out.alloc _)
  have Z1 := Lib.hid (c1.heap Z0.out (by unfold OneP; omega))
  have A1 := Lib.hid (c1.heap A0.out (by unfold OneP; omega))
  have s1 : w.heap.size + 1 < w1.heap.size := lt_of_heap Z1.out
  have s2' : w.heap.size < w1.heap.size := lt_of_heap A1.out
  have V2 : Hid ((w1.alloc v.obj).heap[w1.heap.size]? = some v.obj) := Lib.hid hal_new
  have Z2 : Hid ((w1.alloc v.obj).heap[w.heap.size + 1]? = some Val.null.obj) := Lib.hid ((hal_old s1).trans Z1.out)
  have A2 : Hid ((w1.alloc v.obj).heap[w.heap.size]? = some (ExF.obj ⟨k, 0, 0, [], [], [], 0, some ⟨bb, 0, none⟩, 2, c⟩)) := Lib.hid ((hal_old s2').trans A1.out)
  have F2 : Hid (FnAt (w1.alloc v.obj) p rv e1) := Lib.hid ((hal_old (lt_of_heap f1)).trans f1)
  have R2 : Hid (ValsAt (w1.alloc v.obj) (NotP p) rv row) := Lib.hid (RW.out.chg X2.out (fun _ h => h))
  have XB2 : Hid (ExAt (w1.alloc v.obj) (NotP p) b B) := Lib.hid (ExAt.chg X2.out (fun _ h => h) _ _ XBW.out)
  have XE2 : Hid (ExAt (w1.alloc v.obj) (NotP p) (.bin k a b) ⟨k, 0, 0, [], [], [], 0, some ⟨bb, 0, none⟩, 2, c⟩) := Lib.hid (ExAt.chg X2.out (fun _ h => h) _ _ HX.out)
  clear c1 f1 k0 k1 k2 k3 k4 k5 k6 k7
  obtain ⟨a0, a1, a2, a3, a4, a5, a6, a7⟩ := ExCells.of A1.out
  obtain ⟨z0, z1, z2⟩ := val_cells Z1.out
  obtain ⟨k0, k1, k2, k3, k4, k5, k6, k7⟩ := ex_range (HR.out _ X1.out)
  have hbb : bb < w1.heap.size := by have := X1.out.size; omega
  have hk' : 5 ≤ k ∧ k ≤ 17 := by have := HK.out; simpa [binK] using this
  by_cases h16 : 16 ≤ k
  · have hk2 : k = 16 ∨ k = 17 := by omega
    have hts : (s = 2 ∨ s = 0) ∧ (s2 = 2 ∨ s2 = 0) := only_two (by
      have := HT.out
      rcases hk2 with rfl | rfl <;> simp [typedL] at this <;> exact this.1)
    have hv2 : v.kind = 0 ∨ v.kind = 2 := by have := HFit.out.2; omega
    have HL : Hid (Calls Tryz.prog 87 #[.pointer (some ⟨p, 0, none⟩), ExF.val ⟨k, 0, 0, [], [], [], 0, some ⟨bb, 0, none⟩, 2, c⟩, v.val] (w1.alloc v.obj) (EOut (findV row (.bin k a b) e0) p rv (w1.alloc v.obj))) := Lib.hid (by
      rw [HS.out, if_pos h16]
      by_cases he : e1 = 0
      · subst he
        rw [if_neg (by simp)]
        exact logic_ok cs row HRow.out p rv k a b v hv2 s2 HTB.out hts.2 HI2.out _ _ XE2.out F2.out R2.out
      · rw [if_pos he]
        exact logic_err p rv _ v e1 he _ F2.out)
    clear hk' hk2 hts hv2
    go_wp2_with fail
    refine HL.out.mono ?_
    rintro e w3 ⟨rfl, c3, f3⟩
    have X3 := Lib.hid (X2.out.trans c3 (fun k h => .inl h))
    have Z3 := Lib.hid (c3.heap Z2.out (by unfold OneP; omega))
    have F3 := Lib.hid f3
    clear c3 f3 z0 z1 z2
    obtain ⟨z0, z1, z2⟩ := val_cells Z3.out
    have fz : ∀ o, w3.frozen? ⟨w.heap.size + 1, o, none⟩ = false := fun o => frozen_of_row w3 _ o _ _ Z3.out
    obtain ⟨⟨u, e2⟩, hu⟩ : ∃ q, findV row (.bin k a b) e0 = q := ⟨_, rfl⟩
    have HU := Lib.hid hu
    rw [hu] at F3 ⊢
    clear hu
    go_wp2_with fail
    exact val_ret3 u rfl rfl Z3.out (fun w' c => EOut.mono (r := (u, e2)) ⟨rfl, X3.out.trans c (fun k h => .inr (by unfold OneP at h; omega)), FnAt.chg F3.out c (by unfold OneP; omega)⟩ HU.out.symm)
  · have hfit2 := fits_find cs row HRow.out b s2 e1 HTB.out
    obtain ⟨⟨u, e2⟩, hu⟩ : ∃ q, findV row b e1 = q := ⟨_, rfl⟩
    rw [hu] at hfit2
    have HFit2 := Lib.hid hfit2
    have HU := Lib.hid hu
    have HS2 : Hid (findV row (.bin k a b) e0 = twoL k v (u, e2)) := Lib.hid (by rw [HS.out, if_neg h16, hu])
    clear hfit2 hu
    go_wp2_with fail
    refine (HI2.out B e1 _ XB2.out F2.out R2.out).mono ?_
    rw [HU.out]
    rintro e w3 ⟨rfl, c3, f3⟩
    have X3 := Lib.hid (X2.out.trans c3 (fun k h => .inl h))
    have Z3 := Lib.hid (c3.heap Z2.out (by unfold OneP; omega))
    have A3 := Lib.hid (c3.heap A2.out (by unfold OneP; omega))
    have V3 := Lib.hid (c3.heap V2.out (by have := F2.out; unfold OneP; have := lt_of_heap F0.out; have := X1.out.size; omega))
    have F3 := Lib.hid f3
    clear c3 f3 z0 z1 z2 a0 a1 a2 a3 a4 a5 a6 a7 k0 k1 k2 k3 k4 k5 k6 k7
    have s4 : w.heap.size + 1 < w3.heap.size := lt_of_heap Z3.out
    have s5 : w.heap.size < w3.heap.size := lt_of_heap A3.out
    have s6 : p < w3.heap.size := lt_of_heap F3.out
    have s7 : w1.heap.size < w3.heap.size := lt_of_heap V3.out
    have X4 : Hid (Chg (OneP p) w (w3.alloc u.obj)) := Lib.hid (X3.out.alloc _)
    have Z4 : Hid ((w3.alloc u.obj).heap[w.heap.size + 1]? = some Val.null.obj) := Lib.hid ((hal_old s4).trans Z3.out)
    have F4 : Hid (FnAt (w3.alloc u.obj) p rv e2) := Lib.hid ((hal_old s6).trans F3.out)
    obtain ⟨v0, v1, v2⟩ := val_cells V3.out
    obtain ⟨z0, z1, z2⟩ := val_cells Z3.out
    obtain ⟨a0, a1, a2, a3, a4, a5, a6, a7⟩ := ExCells.of A3.out
    have fz : ∀ o, w3.frozen? ⟨w.heap.size + 1, o, none⟩ = false := fun o => frozen_of_row w3 _ o _ _ Z3.out
    have f1 : w3.cell? ⟨p, 1, none⟩ = some (.int .i64 e2) := cell_of_row w3 p 1 _ _ _ F3.out
    by_cases he : e2 = 0
    · subst he
      obtain ⟨q, hq⟩ : ∃ q, (v.kind == 0 || u.kind == 0) = q := ⟨_, rfl⟩
      have HQ := Lib.hid hq
      have hvu : Hid ((v.kind = 0 ∨ v.kind = s) ∧ (u.kind = 0 ∨ u.kind = s2)) := Lib.hid ⟨HFit.out.2, HFit2.out.2⟩
      by_cases h9 : k ≤ 9
      · have hts : (s = 1 ∨ s = 0) ∧ (s2 = 1 ∨ s2 = 0) := only_two (by
          have := HT.out
          have h5 : (decide (5 ≤ k) && decide (k ≤ 9)) = true := by simp [hk'.1, h9]
          simp [typedL, h5] at this
          exact this.1)
        have g1 : ¬ 1 < v.kind := by have := hvu.out; omega
        have g2 : ¬ 1 < u.kind := by have := hvu.out; omega
        clear hts hq
        cases q with
        | true =>
          have hor : (v.kind == 0) = true ∨ ((v.kind == 0) = false ∧ (u.kind == 0) = true) := by
            have := HQ.out
            cases h1 : v.kind == 0 <;> simp_all
          rcases hor with b1 | ⟨b1, b2⟩
          all_goals
            go_wp2_with fail
            exact val_ret3a _ Val.null rfl rfl Z3.out (fun w' c => EOut.mono (r := (Val.null, 0)) ⟨rfl, X3.out.trans c (fun k h => .inr (by unfold OneP at h; omega)), FnAt.chg F3.out c (by unfold OneP; omega)⟩ (by rw [HS2.out]; unfold twoL; rw [if_neg (by simp), HQ.out]; rfl))
        | false =>
          have b1 : (v.kind == 0) = false := by have := HQ.out; simp at this; simp [this.1]
          have b2 : (u.kind == 0) = false := by have := HQ.out; simp at this; simp [this.2]
          go_wp2_with fail
          refine (arith_any p k v.num u.num rv _ hk'.1 h9 F4.out).mono ?_
          rintro e w5 ⟨c5, ho⟩
          have X5 := Lib.hid (X4.out.trans c5 (fun k h => .inl h))
          have Z5 := Lib.hid (c5.heap Z4.out (by unfold OneP; omega))
          clear c5 z0 z1 z2 a0 a1 a2 a3 a4 a5 a6 a7 v0 v1 v2 fz f1
          obtain ⟨z0, z1, z2⟩ := val_cells Z5.out
          have fz : ∀ o, w5.frozen? ⟨w.heap.size + 1, o, none⟩ = false := fun o => frozen_of_row w5 _ o _ _ Z5.out
          obtain ⟨r, hrr⟩ : ∃ r, numL2 k v.num u.num = r := ⟨_, rfl⟩
          have HRR := Lib.hid hrr
          have h9' := Lib.hid h9
          rw [hrr] at ho
          clear hrr
          cases r with
          | ok n =>
            obtain ⟨rfl, f5⟩ := ho
            have F5 := Lib.hid f5
            clear f5
            go_wp2_with fail
            exact val_ret3 (intV n) rfl rfl Z5.out (fun w' c => EOut.mono (r := ((intV n), 0)) ⟨rfl, X5.out.trans c (fun k h => .inr (by unfold OneP at h; omega)), FnAt.chg F5.out c (by unfold OneP; omega)⟩ (by rw [HS2.out]; unfold twoL; rw [if_neg (by simp), HQ.out, if_neg (by simp), if_pos h9'.out, HRR.out]))
          | error n =>
            obtain ⟨rfl, f5⟩ := ho
            have F5 := Lib.hid f5
            clear f5
            go_wp2_with fail
            exact val_ret3 Val.null rfl rfl Z5.out (fun w' c => EOut.mono (r := (Val.null, n)) ⟨rfl, X5.out.trans c (fun k h => .inr (by unfold OneP at h; omega)), FnAt.chg F5.out c (by unfold OneP; omega)⟩ (by rw [HS2.out]; unfold twoL; rw [if_neg (by simp), HQ.out, if_neg (by simp), if_pos h9'.out, HRR.out]))
      · clear hq
        have hts : only (max s s2) [s, s2] = true := by
          have := HT.out
          have n1 : ¬ k = 3 := by omega
          have n2 : ¬ k = 4 := by omega
          have n3 : ¬ k = 16 := by omega
          have n4 : ¬ k = 17 := by omega
          have n5 : ¬ k = 18 := by omega
          have n6 : ¬ k = 19 := by omega
          simp [typedL, n1, n2, n3, n4, n5, n6, h9] at this
          exact this.1
        cases q with
        | true =>
          have hor : (v.kind == 0) = true ∨ ((v.kind == 0) = false ∧ (u.kind == 0) = true) := by
            have := HQ.out
            cases h1 : v.kind == 0 <;> simp_all
          rcases hor with b1 | ⟨b1, b2⟩
          all_goals
            go_wp2_with fail
            exact val_ret3a _ Val.null rfl rfl Z3.out (fun w' c => EOut.mono (r := (Val.null, 0)) ⟨rfl, X3.out.trans c (fun k h => .inr (by unfold OneP at h; omega)), FnAt.chg F3.out c (by unfold OneP; omega)⟩ (by rw [HS2.out]; unfold twoL; rw [if_neg (by simp), HQ.out]; rfl))
        | false =>
          have n1 : ¬ v.kind = 0 ∧ ¬ u.kind = 0 := by have := HQ.out; simpa using this
          have b1 : (v.kind == 0) = false := by simp [n1.1]
          have b2 : (u.kind == 0) = false := by simp [n1.2]
          have b3 : (v.kind != u.kind) = false := by
            have h1 := only_two hts
            have h2 := hvu.out
            have : v.kind = u.kind := by omega
            simp [this]
          have HC : Hid (findV row (.bin k a b) e0 = (truthV (cmpB k (cmpV v u)), 0)) := Lib.hid (by rw [HS2.out]; unfold twoL; rw [if_neg (by simp), HQ.out, if_neg (by simp), if_neg h9])
          clear n1 hts
          go_wp2_with fail
          refine (compare_any v u _).mono ?_
          rintro e w5 ⟨rfl, c5⟩
          have X5 := Lib.hid (X4.out.trans c5 (fun k h => h.elim))
          have Z5 := Lib.hid (c5.heap Z4.out (fun h => h))
          have A5 := Lib.hid (c5.heap ((hal_old s5).trans A3.out) (fun h => h))
          have F5 := Lib.hid (FnAt.quiet F4.out c5)
          clear c5 z0 z1 z2 a0 a1 a2 a3 a4 a5 a6 a7 v0 v1 v2 fz f1
          have s8 : w.heap.size < w5.heap.size := lt_of_heap A5.out
          have s9 : w.heap.size + 1 < w5.heap.size := lt_of_heap Z5.out
          obtain ⟨a0, _, _, _, _, _, _, _⟩ := ExCells.of A5.out
          obtain ⟨z0, z1, z2⟩ := val_cells Z5.out
          obtain ⟨cc, hcc⟩ : ∃ cc, cmpV v u = cc := ⟨_, rfl⟩
          rw [hcc] at HC ⊢
          clear hcc
          have hk6 : k = 10 ∨ k = 11 ∨ k = 12 ∨ k = 13 ∨ k = 14 ∨ k = 15 := by omega
          clear hk' h9 h16 b1 b2 b3
          rcases hk6 with rfl | rfl | rfl | rfl | rfl | rfl
          all_goals
            go_wp2_with fail
            refine (truth_any _ _).mono ?_
            rintro e w6 ⟨rfl, c6⟩
            have C6 := Lib.hid (((Chg.refl NoB w5).alloc (.cells #[.bool (cc == 0), .bool (cc != 0), .bool (decide (cc < 0)), .bool (decide (cc ≤ 0)), .bool (decide (0 < cc)), .bool (decide (0 ≤ cc))] 4)).trans c6 (fun k h => h.elim))
            have X6 := Lib.hid (X5.out.trans C6.out (fun k h => h.elim))
            have Z6 := Lib.hid (C6.out.heap Z5.out (fun h => h))
            have F6 := Lib.hid (FnAt.quiet F5.out C6.out)
            clear c6 z0 z1 z2 a0
            obtain ⟨z0, z1, z2⟩ := val_cells Z6.out
            have fz : ∀ o, w6.frozen? ⟨w.heap.size + 1, o, none⟩ = false := fun o => frozen_of_row w6 _ o _ _ Z6.out
            go_wp2_with fail
            exact val_ret3 (truthV _) rfl rfl Z6.out (fun w' c => EOut.mono (r := (truthV _, 0)) ⟨rfl, X6.out.trans c (fun k h => .inr (by unfold OneP at h; omega)), FnAt.chg F6.out c (by unfold OneP; omega)⟩ (by rw [HC.out]; rfl))
    · have b1 : (e2 != 0) = true := by simpa using he
      have hnn : ∀ q : Bool, (v.kind == 0) = q → True := fun _ _ => trivial
      have HE := Lib.hid he
      clear he
      obtain ⟨q3, hq3⟩ : ∃ q, (v.kind == 0) = q := ⟨_, rfl⟩
      cases q3 with
      | true =>
        go_wp2_with fail
        exact val_ret3a _ Val.null rfl rfl Z3.out (fun w' c => EOut.mono (r := (Val.null, e2)) ⟨rfl, X3.out.trans c (fun k h => .inr (by unfold OneP at h; omega)), FnAt.chg F3.out c (by unfold OneP; omega)⟩ (by rw [HS2.out]; unfold twoL; rw [if_pos HE.out]))
      | false =>
        go_wp2_with fail
        exact val_ret3a _ Val.null rfl rfl Z3.out (fun w' c => EOut.mono (r := (Val.null, e2)) ⟨rfl, X3.out.trans c (fun k h => .inr (by unfold OneP at h; omega)), FnAt.chg F3.out c (by unfold OneP; omega)⟩ (by rw [HS2.out]; unfold twoL; rw [if_pos HE.out]))
end Go.Proofs.YtnbckfkdmkbopaaGreatDoor
