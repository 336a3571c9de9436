/-
  Evaluation: what has one kid. No condition beyond each lemma's own.
  Evaluation: AND and OR. No condition beyond each lemma's own.
-/
import Derived.Test.YtnbckfkdmkbopaaGreatDoorTH23
set_option autoImplicit false
namespace Go.Proofs.YtnbckfkdmkbopaaGreatDoor
open Go Go.RowKit

/-- find does at a tree what findV says -/
def FindOk (row : List Val) (p : Nat) (rv : Value) (y : Ex) : Prop := ∀ (E : ExF) (e0 : Int) (w : World), ExAt w (NotP p) y E → FnAt w p rv e0 → ValsAt w (NotP p) rv row → Calls Tryz.prog 33 #[.pointer (some ⟨p, 0, none⟩), E.val] w (EOut (findV row y e0) p rv w)
set_option maxRecDepth 100000 in
set_option maxHeartbeats 1000000 in
theorem one_any (cs : List Bcol) (row : List Val) (hrow : rowOk cs row) (p : Nat) (rv : Value) (k : Int) (a : Ex) (t s : Int) (hk : unK k = true) (hta : tyL cs a = some s) (htk : typedL k [s] = some t) (ih : FindOk row p rv a)
    (E : ExF) (e0 : Int) (w : World) (hx : ExAt w (NotP p) (.un k a) E) (h : FnAt w p rv e0) (hr : ValsAt w (NotP p) rv row) : Calls Tryz.prog 57 #[.pointer (some ⟨p, 0, none⟩), E.val] w (EOut (findV row (.un k a) e0) p rv w) := by
  obtain ⟨b, c, A, rfl, hb, hF, hrg, hxa⟩ := hx
  have hfit := fits_find cs row hrow a s e0 hta
  obtain ⟨⟨v, e1⟩, hv⟩ : ∃ q, findV row a e0 = q := ⟨_, rfl⟩
  rw [hv] at hfit
  have hl := lt_of_heap h
  have X0 : Hid (Chg NoB w ((w.alloc (ExF.obj ⟨k, 0, 0, [], [], [], 0, some ⟨b, 0, none⟩, 1, c⟩)).alloc Val.null.obj)) := Lib.hid (((Chg.refl NoB w).alloc _).alloc _)
  have A0 : Hid (((w.alloc (ExF.obj ⟨k, 0, 0, [], [], [], 0, some ⟨b, 0, none⟩, 1, c⟩)).alloc Val.null.obj).heap[w.heap.size]? = some (ExF.obj ⟨k, 0, 0, [], [], [], 0, some ⟨b, 0, none⟩, 1, c⟩)) := Lib.hid ((hal_old (by simp)).trans hal_new)
  have Z0 : Hid (((w.alloc (ExF.obj ⟨k, 0, 0, [], [], [], 0, some ⟨b, 0, none⟩, 1, c⟩)).alloc Val.null.obj).heap[w.heap.size + 1]? = some Val.null.obj) := Lib.hid (hal_new' (by simp))
  have XA := Lib.hid (hxa.quiet X0.out)
  have F0 := Lib.hid (FnAt.quiet h X0.out)
  have R0 := Lib.hid (RowAt.quiet hr X0.out)
  have hrg0 := range_of_heap (X0.out.keep b hb (fun h => h)) hrg
  obtain ⟨k0, k1, k2, k3, k4, k5, k6, k7⟩ := ex_range hrg
  have HI := Lib.hid ih
  have HV := Lib.hid hv
  have HFit := Lib.hid hfit
  have HK := Lib.hid hk
  have HT := Lib.hid htk
  clear h hr hxa hrg hrg0 ih hv hfit hk htk hta hrow
  go_enter Tryz.func57, Tryz.ntmps57
  go_wp2_with fail
  refine (HI.out A e0 _ XA.out F0.out R0.out).mono ?_
  rw [HV.out]
  rintro e w1 ⟨rfl, c1, f1⟩
  have X1 : Hid (Chg (OneP p) w w1) := Lib.hid ((chg_oneP X0.out).trans c1 (fun k h => .inl h))
  have X2 : Hid (Chg (OneP p) w (w1.alloc v.obj)) := Lib.hid (X1.out.alloc _)
  have Z1 := Lib.hid (c1.heap Z0.out (by unfold OneP; omega))
  have A1 := Lib.hid (c1.heap A0.out (by unfold OneP; omega))
  have s1 : w.heap.size + 1 < w1.heap.size := lt_of_heap Z1.out
  have s2 : w.heap.size < w1.heap.size := lt_of_heap A1.out
  have Z2 : Hid ((w1.alloc v.obj).heap[w.heap.size + 1]? = some Val.null.obj) := Lib.hid ((hal_old s1).trans Z1.out)
  have F1 : Hid (FnAt w1 p rv e1) := Lib.hid f1
  have F2 : Hid (FnAt (w1.alloc v.obj) p rv e1) := Lib.hid ((hal_old (lt_of_heap f1)).trans f1)
  clear c1 f1 k0 k1 k2 k3 k4 k5 k6 k7
  obtain ⟨a0, _, _, _, _, _, _, _⟩ := ExCells.of A1.out
  obtain ⟨z0, z1, z2⟩ := val_cells Z1.out
  have fz : ∀ o, w1.frozen? ⟨w.heap.size + 1, o, none⟩ = false := fun o => frozen_of_row w1 _ o _ _ Z1.out
  have hk' : k = 3 ∨ k = 4 ∨ k = 18 ∨ k = 19 := by have := HK.out; simpa [unK, or_assoc] using this
  have HS : Hid (findV row (.un k a) e0 = if k == 18 then (truthV (v.kind == 0), e1) else if k == 19 then (truthV (!(v.kind == 0)), e1) else if v.kind == 0 then (v, e1) else if k == 4 then (truthV (v.num == 0), e1) else if v.num == -9223372036854775808 then (Val.null, fstE e1 35) else (intV (wrap64 (-v.num)), e1)) := Lib.hid (by simp only [findV, HV.out])
  rcases hk' with rfl | rfl | rfl | rfl
  · have hs : s = 1 ∨ s = 0 := only_one (by have := HT.out; simp [typedL] at this; exact this.1)
    by_cases h0 : v.kind = 0
    · have hb0 : (v.kind == 0) = true := by simpa using h0
      have H0 := Lib.hid h0
      clear h0 hs
      go_wp2
      exact val_ret3a _ v rfl rfl Z1.out (fun w' c => EOut.mono (r := (v, e1)) ⟨rfl, X1.out.trans c (fun k h => .inr (by unfold OneP at h; omega)), FnAt.chg F1.out c (by unfold OneP; omega)⟩ (by rw [HS.out]; simp [H0.out]))
    · have hb0 : (v.kind == 0) = false := by simpa using h0
      have hv1 : v.kind = 1 := by rcases HFit.out.2 with h | h <;> omega
      have hb1 : (v.kind != 1) = false := by simp [hv1]
      have H0 := Lib.hid h0
      clear h0 hv1 hs
      by_cases hm : v.num = -9223372036854775808
      · have hbm : (v.num == -9223372036854775808) = true := by simpa using hm
        clear hm
        go_wp2_with fail
        refine (fail_any p 35 rv e1 _ F2.out).mono ?_
        rintro e w3 ⟨rfl, HC⟩
        have X3 := Lib.hid (X2.out.trans HC.out.1 (fun k h => .inl h))
        have Z3 := Lib.hid (HC.out.1.heap Z2.out (by unfold OneP; omega))
        clear z0 z1 z2 a0 fz
        obtain ⟨z0, z1, z2⟩ := val_cells Z3.out
        have fz : ∀ o, w3.frozen? ⟨w.heap.size + 1, o, none⟩ = false := fun o => frozen_of_row w3 _ o _ _ Z3.out
        go_wp2
        exact val_ret3 Val.null rfl rfl Z3.out (fun w' c => EOut.mono (r := (Val.null, fstE e1 35)) ⟨rfl, X3.out.trans c (fun k h => .inr (by unfold OneP at h; omega)), FnAt.chg HC.out.2 c (by unfold OneP; omega)⟩ (by rw [HS.out]; simp [H0.out, hbm]))
      · have hbm : (v.num == -9223372036854775808) = false := by simpa using hm
        clear hm
        go_wp2
        exact val_ret3a _ (intV (wrap64 (-v.num))) rfl rfl Z1.out (fun w' c => EOut.mono (r := ((intV (wrap64 (-v.num))), e1)) ⟨rfl, X1.out.trans c (fun k h => .inr (by unfold OneP at h; omega)), FnAt.chg F1.out c (by unfold OneP; omega)⟩ (by rw [HS.out]; simp [H0.out, hbm]))
  · have hs : s = 2 ∨ s = 0 := only_one (by have := HT.out; simp [typedL] at this; exact this.1)
    by_cases h0 : v.kind = 0
    · have hb0 : (v.kind == 0) = true := by simpa using h0
      have H0 := Lib.hid h0
      clear h0 hs
      go_wp2
      exact val_ret3a _ v rfl rfl Z1.out (fun w' c => EOut.mono (r := (v, e1)) ⟨rfl, X1.out.trans c (fun k h => .inr (by unfold OneP at h; omega)), FnAt.chg F1.out c (by unfold OneP; omega)⟩ (by rw [HS.out]; simp [H0.out]))
    · have hb0 : (v.kind == 0) = false := by simpa using h0
      have hv1 : v.kind = 2 := by rcases HFit.out.2 with h | h <;> omega
      have hb1 : (v.kind == 2) = true := by simp [hv1]
      have H0 := Lib.hid h0
      clear h0 hv1 hs
      go_wp2_with fail
      refine (truth_any (v.num == 0) _).mono ?_
      rintro e w3 ⟨rfl, c3⟩
      have X3 := Lib.hid (X2.out.trans c3 (fun k h => h.elim))
      have Z3 := Lib.hid (c3.heap Z2.out (fun h => h))
      have F3 := Lib.hid (FnAt.quiet F2.out c3)
      clear c3 z0 z1 z2 a0 fz
      obtain ⟨z0, z1, z2⟩ := val_cells Z3.out
      have fz : ∀ o, w3.frozen? ⟨w.heap.size + 1, o, none⟩ = false := fun o => frozen_of_row w3 _ o _ _ Z3.out
      go_wp2
      exact val_ret3 (truthV (v.num == 0)) rfl rfl Z3.out (fun w' c => EOut.mono (r := (truthV (v.num == 0), e1)) ⟨rfl, X3.out.trans c (fun k h => .inr (by unfold OneP at h; omega)), FnAt.chg F3.out c (by unfold OneP; omega)⟩ (by rw [HS.out]; simp [H0.out]))
  · go_wp2_with fail
    refine (truth_any (v.kind == 0) _).mono ?_
    rintro e w3 ⟨rfl, c3⟩
    have X3 := Lib.hid (X2.out.trans c3 (fun k h => h.elim))
    have Z3 := Lib.hid (c3.heap Z2.out (fun h => h))
    have F3 := Lib.hid (FnAt.quiet F2.out c3)
    clear c3 z0 z1 z2 a0 fz
    obtain ⟨z0, z1, z2⟩ := val_cells Z3.out
    have fz : ∀ o, w3.frozen? ⟨w.heap.size + 1, o, none⟩ = false := fun o => frozen_of_row w3 _ o _ _ Z3.out
    go_wp2
    exact val_ret3 (truthV (v.kind == 0)) rfl rfl Z3.out (fun w' c => EOut.mono (r := (truthV (v.kind == 0), e1)) ⟨rfl, X3.out.trans c (fun k h => .inr (by unfold OneP at h; omega)), FnAt.chg F3.out c (by unfold OneP; omega)⟩ (by rw [HS.out]; rfl))
  · have hne : (v.kind != 0) = !(v.kind == 0) := rfl
    go_wp2_with fail
    refine (truth_any (!(v.kind == 0)) _).mono ?_
    rintro e w3 ⟨rfl, c3⟩
    have X3 := Lib.hid (X2.out.trans c3 (fun k h => h.elim))
    have Z3 := Lib.hid (c3.heap Z2.out (fun h => h))
    have F3 := Lib.hid (FnAt.quiet F2.out c3)
    clear c3 z0 z1 z2 a0 fz
    obtain ⟨z0, z1, z2⟩ := val_cells Z3.out
    have fz : ∀ o, w3.frozen? ⟨w.heap.size + 1, o, none⟩ = false := fun o => frozen_of_row w3 _ o _ _ Z3.out
    go_wp2
    exact val_ret3 (truthV (!(v.kind == 0))) rfl rfl Z3.out (fun w' c => EOut.mono (r := (truthV (!(v.kind == 0)), e1)) ⟨rfl, X3.out.trans c (fun k h => .inr (by unfold OneP at h; omega)), FnAt.chg F3.out c (by unfold OneP; omega)⟩ (by rw [HS.out]; rfl))
end Go.Proofs.YtnbckfkdmkbopaaGreatDoor

set_option autoImplicit false
namespace Go.Proofs.YtnbckfkdmkbopaaGreatDoor
open Go Go.RowKit

theorem eql_val (a b : Val) (w : World) : (Op.equalIn 10000 26 a.val b.val).run Tryz.prog w = .ok (a.isV b) w := by
  rw [show (10000 : Nat) = 9999 + 1 from rfl, run_equalIn_agg w 9999 26 _ _ (by kernel_rfl) (by kernel_rfl)]
  go_simp
  unfold Val.isV
  rcases h1 : a.kind == b.kind with _ | _ <;> rcases h2 : a.num == b.num with _ | _ <;> rcases h3 : a.str == b.str with _ | _ <;> simp_all
attribute [local go_sem ↓] eql_val
theorem logic1_any (v : Val) (w : World) (hv : v.kind = 0 ∨ v.kind = 2) : Calls Tryz.prog 128 #[v.val] w fun e w' => e = .returned (.bool false) ∧ Chg NoB w w' := by
  by_cases h0 : v.kind = 0
  · have b1 : (v.kind != 0) = false := by simp [h0]
    clear hv h0
    go_enter Tryz.func128, Tryz.ntmps128
    go_wp2
    go_ret
    exact ⟨rfl, (Chg.refl _ _).alloc _⟩
  · have b1 : (v.kind != 0) = true := by simp [h0]
    have b2 : (v.kind != 2) = false := by simp; omega
    clear hv h0
    go_enter Tryz.func128, Tryz.ntmps128
    go_wp2
    go_ret
    exact ⟨rfl, (Chg.refl _ _).alloc _⟩
set_option maxRecDepth 100000 in
set_option maxHeartbeats 1000000 in
theorem logic_err (p : Nat) (rv : Value) (E : ExF) (v : Val) (e1 : Int) (he : ¬ e1 = 0) (w : World) (h : FnAt w p rv e1) : Calls Tryz.prog 87 #[.pointer (some ⟨p, 0, none⟩), E.val, v.val] w (EOut (v, e1) p rv w) := by
  have X0 : Hid (Chg NoB w (((w.alloc E.obj).alloc v.obj).alloc Val.null.obj)) := Lib.hid ((((Chg.refl NoB w).alloc _).alloc _).alloc _)
  have V0 : Hid ((((w.alloc E.obj).alloc v.obj).alloc Val.null.obj).heap[w.heap.size + 1]? = some v.obj) := Lib.hid ((hal_old (by simp)).trans (hal_new' (by simp)))
  have Z0 : Hid ((((w.alloc E.obj).alloc v.obj).alloc Val.null.obj).heap[w.heap.size + 1 + 1]? = some Val.null.obj) := Lib.hid (hal_new' (by simp))
  have F0 := Lib.hid (FnAt.quiet h X0.out)
  have H := Lib.hid h
  have hl := lt_of_heap h
  have b1 : (e1 == 0) = false := by simpa using he
  have b2 : (e1 != 0) = true := by simp [bne, b1]
  clear h he
  go_enter Tryz.func87, Tryz.ntmps87
  go_wp2_with fail
  refine (truth_any _ _).mono ?_
  rintro e w1 ⟨rfl, c1⟩
  have X1 := Lib.hid (X0.out.trans c1 (fun k h => h.elim))
  have V1 := Lib.hid (c1.heap V0.out (fun h => h))
  have Z1 := Lib.hid (c1.heap Z0.out (fun h => h))
  have F1 := Lib.hid (FnAt.quiet F0.out c1)
  clear c1
  have s1 : w.heap.size + 1 + 1 < w1.heap.size := lt_of_heap Z1.out
  have s2 : w.heap.size + 1 < w1.heap.size := lt_of_heap V1.out
  have s3 : p < w1.heap.size := lt_of_heap F1.out
  obtain ⟨v0, v1, v2⟩ := val_cells V1.out
  obtain ⟨z0, z1, z2⟩ := val_cells Z1.out
  have fz : ∀ o, w1.frozen? ⟨w.heap.size + 1 + 1, o, none⟩ = false := fun o => frozen_of_row w1 _ o _ _ Z1.out
  have f1 : w1.cell? ⟨p, 1, none⟩ = some (.int .i64 e1) := cell_of_row w1 p 1 _ _ _ F1.out
  go_wp2_with fail
  exact val_ret3a _ v rfl rfl Z1.out (fun w' c => EOut.mono (r := (v, e1)) ⟨rfl, (chg_oneP X1.out).trans c (fun k h => .inr (by unfold OneP at h; omega)), FnAt.chg F1.out c (by unfold OneP; omega)⟩ rfl)
/-- what AND and OR come to, where there is no error ahead -/
def logL (st v : Val) (u : Val × Int) : Val × Int := if v.isV st then (v, 0) else if u.1.isV st then u else if v.kind == 0 then (v, u.2) else u
set_option maxRecDepth 100000 in
set_option maxHeartbeats 2000000 in
theorem logic_ok (cs : List Bcol) (row : List Val) (hrow : rowOk cs row) (p : Nat) (rv : Value) (k : Int) (a b : Ex) (v : Val) (hv : v.kind = 0 ∨ v.kind = 2) (s : Int) (htb : tyL cs b = some s) (hs : s = 2 ∨ s = 0) (ih : FindOk row p rv b)
    (E : ExF) (w : World) (hx : ExAt w (NotP p) (.bin k a b) E) (h : FnAt w p rv 0) (hr : ValsAt w (NotP p) rv row) : Calls Tryz.prog 87 #[.pointer (some ⟨p, 0, none⟩), E.val, v.val] w
      (EOut (logL (truthV (k == 17)) v (findV row b 0)) p rv w) := by
  obtain ⟨bb, c, A, B, rfl, hb, hF, hrg, _, hxb⟩ := hx
  have hfit := fits_find cs row hrow b s 0 htb
  obtain ⟨⟨u, e2⟩, hu⟩ : ∃ q, findV row b 0 = q := ⟨_, rfl⟩
  rw [hu] at hfit
  have hu2 : u.kind = 0 ∨ u.kind = 2 := by have := hfit.2; simp only at this; omega
  have hl := lt_of_heap h
  obtain ⟨st, hst⟩ : ∃ st, truthV (k == 17) = st := ⟨_, rfl⟩
  have X0 : Hid (Chg NoB w (((w.alloc (ExF.obj ⟨k, 0, 0, [], [], [], 0, some ⟨bb, 0, none⟩, 2, c⟩)).alloc v.obj).alloc Val.null.obj)) := Lib.hid ((((Chg.refl NoB w).alloc _).alloc _).alloc _)
  have A0 : Hid ((((w.alloc (ExF.obj ⟨k, 0, 0, [], [], [], 0, some ⟨bb, 0, none⟩, 2, c⟩)).alloc v.obj).alloc Val.null.obj).heap[w.heap.size]? = some (ExF.obj ⟨k, 0, 0, [], [], [], 0, some ⟨bb, 0, none⟩, 2, c⟩)) := Lib.hid ((hal_old (by simp; omega)).trans ((hal_old (by simp)).trans hal_new))
  have V0 : Hid ((((w.alloc (ExF.obj ⟨k, 0, 0, [], [], [], 0, some ⟨bb, 0, none⟩, 2, c⟩)).alloc v.obj).alloc Val.null.obj).heap[w.heap.size + 1]? = some v.obj) := Lib.hid ((hal_old (by simp)).trans (hal_new' (by simp)))
  have Z0 : Hid ((((w.alloc (ExF.obj ⟨k, 0, 0, [], [], [], 0, some ⟨bb, 0, none⟩, 2, c⟩)).alloc v.obj).alloc Val.null.obj).heap[w.heap.size + 1 + 1]? = some Val.null.obj) := Lib.hid (hal_new' (by simp))
  have F0 := Lib.hid (FnAt.quiet h X0.out)
  have R0 := Lib.hid (RowAt.quiet hr X0.out)
  have XB0 := Lib.hid (hxb.quiet X0.out)
  have HR : Hid (∀ V, Chg (OneP p) w V → V.rangeAt bb 8 (ExF.cells B)) := Lib.hid fun V cV => by
    have h1 := range_of_heap (cV.keep bb hb hF) hrg
    intro i q hi
    have := h1 (8 + i) q (by rw [List.getElem?_append_right (by simp)]; simpa using hi)
    simpa [Nat.add_assoc] using this
  rw [hu, hst]
  have HI := Lib.hid ih
  have HU := Lib.hid hu
  have HST := Lib.hid hst
  have HV2 := Lib.hid hv
  have HU2 := Lib.hid hu2
  clear h hr hxb hrg ih hu hfit hu2 hst htb hs hrow hv
  go_enter Tryz.func87, Tryz.ntmps87
  go_wp2_with fail
  refine (truth_any _ _).mono ?_
  rw [HST.out]
  rintro e w1 ⟨rfl, c1⟩
  have X1 := Lib.hid (X0.out.trans c1 (fun k h => h.elim))
  have A1 := Lib.hid (c1.heap A0.out (fun h => h))
  have V1 := Lib.hid (c1.heap V0.out (fun h => h))
  have Z1 := Lib.hid (c1.heap Z0.out (fun h => h))
  have F1 := Lib.hid (FnAt.quiet F0.out c1)
  have R1 := Lib.hid (RowAt.quiet R0.out c1)
  have XB1 := Lib.hid (XB0.out.quiet c1)
  clear c1
  have s0 : w.heap.size < w1.heap.size := lt_of_heap A1.out
  have s1 : w.heap.size + 1 + 1 < w1.heap.size := lt_of_heap Z1.out
  have s2 : w.heap.size + 1 < w1.heap.size := lt_of_heap V1.out
  have s3 : p < w1.heap.size := lt_of_heap F1.out
  obtain ⟨v0, v1, v2⟩ := val_cells V1.out
  have f1 : w1.cell? ⟨p, 1, none⟩ = some (.int .i64 0) := cell_of_row w1 p 1 _ _ _ F1.out
  go_wp2_with fail
  have X1' : Hid (Chg NoB w (w1.alloc st.obj)) := Lib.hid (X1.out.alloc _)
  have CC : Hid (Chg NoB w1 (w1.alloc st.obj)) := Lib.hid ((Chg.refl NoB w1).alloc _)
  have ST1 : Hid ((w1.alloc st.obj).heap[w1.heap.size]? = some st.obj) := Lib.hid hal_new
  refine (logic1_any v _ HV2.out).mono ?_
  rintro e w2 ⟨rfl, c2⟩
  have C2 := Lib.hid (CC.out.trans c2 (fun k h => h.elim))
  have X2 := Lib.hid (X1.out.trans C2.out (fun k h => h.elim))
  have A2 := Lib.hid (C2.out.heap A1.out (fun h => h))
  have V2 := Lib.hid (C2.out.heap V1.out (fun h => h))
  have Z2 := Lib.hid (C2.out.heap Z1.out (fun h => h))
  have ST2 := Lib.hid (c2.heap ST1.out (fun h => h))
  have F2 := Lib.hid (FnAt.quiet F1.out C2.out)
  have R2 := Lib.hid (RowAt.quiet R1.out C2.out)
  have XB2 := Lib.hid (XB1.out.quiet C2.out)
  clear c2 v0 v1 v2 f1
  obtain ⟨v0, v1, v2⟩ := val_cells V2.out
  obtain ⟨z0, z1, z2⟩ := val_cells Z2.out
  obtain ⟨t0, t1, t2⟩ := val_cells ST2.out
  obtain ⟨_, _, _, _, _, _, _, a7⟩ := ExCells.of A2.out
  obtain ⟨k0, k1, k2, k3, k4, k5, k6, k7⟩ := ex_range (HR.out _ (chg_oneP X2.out))
  have fz : ∀ o, w2.frozen? ⟨w.heap.size + 1 + 1, o, none⟩ = false := fun o => frozen_of_row w2 _ o _ _ Z2.out
  have f1 : w2.cell? ⟨p, 1, none⟩ = some (.int .i64 0) := cell_of_row w2 p 1 _ _ _ F2.out
  obtain ⟨q, hq⟩ : ∃ q, v.isV st = q := ⟨_, rfl⟩
  have HQ := Lib.hid hq
  cases q with
  | true =>
    go_wp2_with fail
    exact val_ret3 v rfl rfl Z2.out (fun w' c => EOut.mono (r := (v, 0)) ⟨rfl, (chg_oneP X2.out).trans c (fun k h => .inr (by unfold OneP at h; omega)), FnAt.chg F2.out c (by unfold OneP; omega)⟩ (by unfold logL; rw [HQ.out]; rfl))
  | false =>
    go_wp2_with fail
    refine (HI.out B 0 _ XB2.out F2.out R2.out).mono ?_
    rw [HU.out]
    rintro e w3 ⟨rfl, c3, f3⟩
    have X3 := Lib.hid ((chg_oneP X2.out).trans c3 (fun k h => .inl h))
    have V3 := Lib.hid (c3.heap V2.out (by unfold OneP; omega))
    have Z3 := Lib.hid (c3.heap Z2.out (by unfold OneP; omega))
    have ST3 := Lib.hid (c3.heap ST2.out (by unfold OneP; omega))
    have F3 := Lib.hid f3
    clear c3 f3 v0 v1 v2 f1 z0 z1 z2 t0 t1 t2 fz a7 k0 k1 k2 k3 k4 k5 k6 k7 hq
    have s4 : w.heap.size + 1 + 1 < w3.heap.size := lt_of_heap Z3.out
    have s5 : w.heap.size + 1 < w3.heap.size := lt_of_heap V3.out
    have s6 : p < w3.heap.size := lt_of_heap F3.out
    have s7 : w1.heap.size < w3.heap.size := lt_of_heap ST3.out
    obtain ⟨q2, hq2⟩ : ∃ q, u.isV st = q := ⟨_, rfl⟩
    obtain ⟨q3, hq3⟩ : ∃ q, (v.kind == 0) = q := ⟨_, rfl⟩
    have HQ2 := Lib.hid hq2
    have HQ3 := Lib.hid hq3
    clear hq2 hq3
    have U3 : Hid ((w3.alloc u.obj).heap[w3.heap.size]? = some u.obj) := Lib.hid hal_new
    have CC3 : Hid (Chg NoB w3 (w3.alloc u.obj)) := Lib.hid ((Chg.refl NoB w3).alloc _)
    obtain ⟨v0, v1, v2⟩ := val_cells V3.out
    obtain ⟨z0, z1, z2⟩ := val_cells Z3.out
    obtain ⟨t0, t1, t2⟩ := val_cells ST3.out
    have fz : ∀ o, w3.frozen? ⟨w.heap.size + 1 + 1, o, none⟩ = false := fun o => frozen_of_row w3 _ o _ _ Z3.out
    have f1 : w3.cell? ⟨p, 1, none⟩ = some (.int .i64 e2) := cell_of_row w3 p 1 _ _ _ F3.out
    by_cases he : e2 = 0
    · subst he
      go_wp2_with fail
      refine (logic1_any u _ HU2.out).mono ?_
      rintro e w4 ⟨rfl, c4⟩
      have C4 := Lib.hid (CC3.out.trans c4 (fun k h => h.elim))
      have X4 := Lib.hid (X3.out.trans C4.out (fun k h => h.elim))
      have V4 := Lib.hid (C4.out.heap V3.out (fun h => h))
      have Z4 := Lib.hid (C4.out.heap Z3.out (fun h => h))
      have ST4 := Lib.hid (C4.out.heap ST3.out (fun h => h))
      have U4 := Lib.hid (c4.heap U3.out (fun h => h))
      have F4 := Lib.hid (FnAt.quiet F3.out C4.out)
      clear c4 v0 v1 v2 z0 z1 z2 t0 t1 t2 fz f1
      obtain ⟨v0, v1, v2⟩ := val_cells V4.out
      obtain ⟨z0, z1, z2⟩ := val_cells Z4.out
      obtain ⟨t0, t1, t2⟩ := val_cells ST4.out
      obtain ⟨u0, u1, u2⟩ := val_cells U4.out
      have fz : ∀ o, w4.frozen? ⟨w.heap.size + 1 + 1, o, none⟩ = false := fun o => frozen_of_row w4 _ o _ _ Z4.out
      have hq2 := HQ2.out
      have hq3 := HQ3.out
      cases q2 with
      | true =>
        go_wp2_with fail
        exact val_ret3 u rfl rfl Z4.out (fun w' c => EOut.mono (r := (u, 0)) ⟨rfl, X4.out.trans c (fun k h => .inr (by unfold OneP at h; omega)), FnAt.chg F4.out c (by unfold OneP; omega)⟩ (by unfold logL; rw [HQ.out]; simp [HQ2.out]))
      | false =>
        cases q3 with
        | true =>
          go_wp2_with fail
          exact val_ret3 v rfl rfl Z4.out (fun w' c => EOut.mono (r := (v, 0)) ⟨rfl, X4.out.trans c (fun k h => .inr (by unfold OneP at h; omega)), FnAt.chg F4.out c (by unfold OneP; omega)⟩ (by unfold logL; rw [HQ.out]; simp [HQ2.out, HQ3.out]))
        | false =>
          go_wp2_with fail
          exact val_ret3 u rfl rfl Z4.out (fun w' c => EOut.mono (r := (u, 0)) ⟨rfl, X4.out.trans c (fun k h => .inr (by unfold OneP at h; omega)), FnAt.chg F4.out c (by unfold OneP; omega)⟩ (by unfold logL; rw [HQ.out]; simp [HQ2.out, HQ3.out]))
    · have b1 : (e2 == 0) = false := by simpa using he
      have hq2 := HQ2.out
      have hq3 := HQ3.out
      clear he
      cases q2 with
      | true =>
        go_wp2_with fail
        exact val_ret3a _ u rfl rfl Z3.out (fun w' c => EOut.mono (r := (u, e2)) ⟨rfl, X3.out.trans c (fun k h => .inr (by unfold OneP at h; omega)), FnAt.chg F3.out c (by unfold OneP; omega)⟩ (by unfold logL; rw [HQ.out]; simp [HQ2.out]))
      | false =>
        cases q3 with
        | true =>
          go_wp2_with fail
          exact val_ret3a _ v rfl rfl Z3.out (fun w' c => EOut.mono (r := (v, e2)) ⟨rfl, X3.out.trans c (fun k h => .inr (by unfold OneP at h; omega)), FnAt.chg F3.out c (by unfold OneP; omega)⟩ (by unfold logL; rw [HQ.out]; simp [HQ2.out, HQ3.out]))
        | false =>
          go_wp2_with fail
          exact val_ret3a _ u rfl rfl Z3.out (fun w' c => EOut.mono (r := (u, e2)) ⟨rfl, X3.out.trans c (fun k h => .inr (by unfold OneP at h; omega)), FnAt.chg F3.out c (by unfold OneP; omega)⟩ (by unfold logL; rw [HQ.out]; simp [HQ2.out, HQ3.out]))
end Go.Proofs.YtnbckfkdmkbopaaGreatDoor
