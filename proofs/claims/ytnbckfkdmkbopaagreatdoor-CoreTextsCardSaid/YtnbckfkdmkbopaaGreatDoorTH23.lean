/-
  Evaluation: how values are ordered. No condition beyond each lemma's own.
  Evaluation: leaves. No condition beyond each lemma's own.
  Evaluation: find, by the kids' number. No condition beyond each lemma's own.
-/
import Derived.Test.YtnbckfkdmkbopaaGreatDoorTH22
import Derived.Test.YtnbckfkdmkbopaaGreatDoorTH20
set_option autoImplicit false
namespace Go.Proofs.YtnbckfkdmkbopaaGreatDoor
open Go Go.RowKit

theorem ltS_less : ∀ (a b : Str), Op.bytesLess a b = ltS a b
  | [], [] => rfl
  | _ :: _, [] => rfl
  | [], _ :: _ => rfl
  | a :: l, b :: r => by
    rw [Op.bytesLess, ltS, ltS_less l r]
    by_cases h1 : a < b
    · simp [h1]
    · by_cases h2 : b < a
      · have : ¬ a = b := by rintro rfl; exact h1 h2
        simp [h1, h2, this]
      · have : a = b := UInt8.le_antisymm (UInt8.not_lt.1 h2) (UInt8.not_lt.1 h1)
        subst this
        simp [h1]
theorem ltS_anti : ∀ (a b : Str), ltS a b = false → ltS b a = false → a = b
  | [], [], _, _ => rfl
  | _ :: _, [], _, h => by simp [ltS] at h
  | [], _ :: _, h, _ => by simp [ltS] at h
  | a :: l, b :: r, h, k => by
    simp only [ltS] at h k
    by_cases h1 : a < b
    · simp [h1] at h
    · by_cases h2 : b < a
      · simp [h2] at k
      · have : a = b := UInt8.le_antisymm (UInt8.not_lt.1 h2) (UInt8.not_lt.1 h1)
        subst this
        simp only [h1, if_false] at h k
        rw [ltS_anti l r h k]
theorem cmpi_any (a b : Int) (w : World) : Calls Tryz.prog 51 #[.int .i64 a, .int .i64 b] w fun e w' => e = .returned (.int .i64 (sgnI a b)) ∧ w = w' := by
  by_cases h1 : a < b
  · have hs : Hid (sgnI a b = -1) := Lib.hid (by simp [sgnI, h1])
    go_enter Tryz.func51, Tryz.ntmps51
    go_wp2
    go_ret
    exact ⟨by rw [hs.out]; rfl, rfl⟩
  · by_cases h2 : b < a
    · have hs : Hid (sgnI a b = 1) := Lib.hid (by simp [sgnI, h1, h2])
      go_enter Tryz.func51, Tryz.ntmps51
      go_wp2
      go_ret
      exact ⟨by rw [hs.out]; rfl, rfl⟩
    · have hs : Hid (sgnI a b = 0) := Lib.hid (by simp [sgnI, h1, h2])
      go_enter Tryz.func51, Tryz.ntmps51
      go_wp2
      go_ret
      exact ⟨by rw [hs.out]; rfl, rfl⟩
theorem cmpl_any (a b : Int) (w : World) : Calls Tryz.prog 52 #[.int .i64 a, .int .i64 b] w fun e w' => e = .returned (.int .i64 (sgnI a b)) ∧ w = w' := by
  by_cases h1 : a < b
  · have hs : Hid (sgnI a b = -1) := Lib.hid (by simp [sgnI, h1])
    go_enter Tryz.func52, Tryz.ntmps52
    go_wp2
    go_ret
    exact ⟨by rw [hs.out]; rfl, rfl⟩
  · by_cases h2 : b < a
    · have hs : Hid (sgnI a b = 1) := Lib.hid (by simp [sgnI, h1, h2])
      go_enter Tryz.func52, Tryz.ntmps52
      go_wp2
      go_ret
      exact ⟨by rw [hs.out]; rfl, rfl⟩
    · have hs : Hid (sgnI a b = 0) := Lib.hid (by simp [sgnI, h1, h2])
      go_enter Tryz.func52, Tryz.ntmps52
      go_wp2
      go_ret
      exact ⟨by rw [hs.out]; rfl, rfl⟩
theorem cmps_any (a b : Str) (w : World) : Calls Tryz.prog 53 #[sv a, sv b] w fun e w' => e = .returned (.int .i64 (sgnS a b)) ∧ w = w' := by
  obtain ⟨q1, h1⟩ : ∃ q, Op.bytesLess a b = q := ⟨_, rfl⟩
  obtain ⟨q2, h2⟩ : ∃ q, Op.bytesLess b a = q := ⟨_, rfl⟩
  have hs : Hid (sgnS a b = if q1 then -1 else if q2 then 1 else 0) := Lib.hid (by unfold sgnS; rw [← ltS_less, ← ltS_less, h1, h2])
  cases q1 with
  | true =>
    clear h2
    go_enter Tryz.func53, Tryz.ntmps53
    go_wp2
    go_ret
    exact ⟨by rw [hs.out]; rfl, rfl⟩
  | false =>
    cases q2 with
    | true =>
      have h3 : (!a == b) = true := by
        cases hab : a == b with
        | false => rfl
        | true =>
          exfalso
          obtain rfl : a = b := by simpa using hab
          rw [h1] at h2; cases h2
      go_enter Tryz.func53, Tryz.ntmps53
      go_wp2
      go_ret
      exact ⟨by rw [hs.out]; rfl, rfl⟩
    | false =>
      have h3 : (!a == b) = false := by
        rw [ltS_less] at h1 h2
        have := ltS_anti _ _ h1 h2
        subst this
        simp
      go_enter Tryz.func53, Tryz.ntmps53
      go_wp2
      go_ret
      exact ⟨by rw [hs.out]; rfl, rfl⟩
theorem cmpor_any (x y z : Int) (b c : Nat) (w : World) (h : w.heap[b]? = some (.cells #[.int .i64 x, .int .i64 y, .int .i64 z] 3 (0, 0))) : Calls Tryz.prog 50 #[.slice (some ⟨b, 0, none⟩) 3 c] w fun e w' => e = .returned (.int .i64 (orI x y z)) ∧ w = w' := by
  have c0 : w.cell? ⟨b, 0, none⟩ = some (.int .i64 x) := cell_of_row w b 0 _ _ _ h
  have c1 : w.cell? ⟨b, 1, none⟩ = some (.int .i64 y) := cell_of_row w b 1 _ _ _ h
  have c2 : w.cell? ⟨b, 2, none⟩ = some (.int .i64 z) := cell_of_row w b 2 _ _ _ h
  clear h
  go_enter Tryz.func50, Tryz.ntmps50
  go_wp2
  go_loop [8] (fun i => (i = .int .i64 0) ∨ (i = .int .i64 1 ∧ x = 0) ∨ (i = .int .i64 2 ∧ x = 0 ∧ y = 0) ∨ (i = .int .i64 3 ∧ x = 0 ∧ y = 0 ∧ z = 0)) (fun i => (3 - intOf i).toNat)
  case atStart => exact .inl rfl
  case round =>
    rcases hrel with rfl | ⟨rfl, hx⟩ | ⟨rfl, hx, hy⟩ | ⟨rfl, hx, hy, hz⟩
    · by_cases hx : x = 0
      · subst hx
        go_wp2
        go_round
        case rel => exact .inr (.inl ⟨rfl, trivial⟩)
        case measure => decide
      · have hb : (x == 0) = false := by simpa using hx
        have hv : Hid (orI x y z = x) := Lib.hid (by simp [orI, hx])
        go_wp2
        go_ret
        exact ⟨by rw [hv.out]; rfl, rfl⟩
    · subst hx
      by_cases hy : y = 0
      · subst hy
        go_wp2
        go_round
        case rel => exact .inr (.inr (.inl ⟨rfl, trivial, trivial⟩))
        case measure => decide
      · have hb : (y == 0) = false := by simpa using hy
        have hv : Hid (orI 0 y z = y) := Lib.hid (by simp [orI, hy])
        go_wp2
        go_ret
        exact ⟨by rw [hv.out]; rfl, rfl⟩
    · subst hx; subst hy
      by_cases hz : z = 0
      · subst hz
        go_wp2
        go_round
        case rel => exact .inr (.inr (.inr ⟨rfl, trivial, trivial, trivial⟩))
        case measure => decide
      · have hb : (z == 0) = false := by simpa using hz
        have hv : Hid (orI 0 0 z = z) := Lib.hid (by simp [orI])
        go_wp2
        go_ret
        exact ⟨by rw [hv.out]; rfl, rfl⟩
    · subst hx; subst hy; subst hz
      go_wp2
      go_ret
      exact ⟨rfl, rfl⟩
set_option maxRecDepth 100000 in
set_option maxHeartbeats 2000000 in
theorem compare_any (a b : Val) (w : World) : Calls Tryz.prog 28 #[a.val, b.val] w fun e w' => e = .returned (.int .i64 (cmpV a b)) ∧ Chg NoB w w' := by
  have XD : Hid (Chg NoB w ((w.alloc a.obj).alloc b.obj).drew) := Lib.hid (((Chg.refl NoB w).alloc _).alloc _).drew
  have hA : Hid (∀ V, Chg NoB ((w.alloc a.obj).alloc b.obj).drew V → (V.heap[w.heap.size]? = some a.obj ∧ V.heap[w.heap.size + 1]? = some b.obj)) := Lib.hid fun V c =>
    ⟨c.heap (show (World.drew _).heap[w.heap.size]? = _ from (hal_old (by simp)).trans hal_new) (fun h => h), c.heap (show (World.drew _).heap[w.heap.size + 1]? = _ from hal_new' (by simp)) (fun h => h)⟩
  have HS : Hid (∀ V, Chg NoB ((w.alloc a.obj).alloc b.obj).drew V → V.cell? ⟨w.heap.size, 0, none⟩ = some (.int .i64 a.kind) ∧ V.cell? ⟨w.heap.size, 1, none⟩ = some (.int .i64 a.num) ∧ V.cell? ⟨w.heap.size, 2, none⟩ = some (sv a.str) ∧
      V.cell? ⟨w.heap.size + 1, 0, none⟩ = some (.int .i64 b.kind) ∧ V.cell? ⟨w.heap.size + 1, 1, none⟩ = some (.int .i64 b.num) ∧ V.cell? ⟨w.heap.size + 1, 2, none⟩ = some (sv b.str)) := Lib.hid fun V c => by
    obtain ⟨h1, h2⟩ := hA.out V c
    obtain ⟨x0, x1, x2⟩ := val_cells h1
    obtain ⟨y0, y1, y2⟩ := val_cells h2
    exact ⟨x0, x1, x2, y0, y1, y2⟩
  go_enter Tryz.func28, Tryz.ntmps28
  go_wp2_with fail
  refine wp_region_lex (fun V => V.cell? ⟨w.heap.size, 0, none⟩ = some (.int .i64 a.kind) ∧ V.cell? ⟨w.heap.size, 1, none⟩ = some (.int .i64 a.num) ∧ V.cell? ⟨w.heap.size, 2, none⟩ = some (sv a.str) ∧
      V.cell? ⟨w.heap.size + 1, 0, none⟩ = some (.int .i64 b.kind) ∧ V.cell? ⟨w.heap.size + 1, 1, none⟩ = some (.int .i64 b.num) ∧ V.cell? ⟨w.heap.size + 1, 2, none⟩ = some (sv b.str)) 99 [4, 9, 14, 15, 16] [0, 1, 2, 3, 5, 6, 7, 8, 10, 11, 12, 13, 4, 9, 14, 15, 16, 17] (by kernel_rfl) (by kernel_rfl) (HS.out _ (Chg.refl _ _)) ?_
  iterate 12
    refine' lex_free (v := _) rfl rfl rfl ?_ (fun _ _ _ h => h) ?_
    rotate_left
    · rintro W ⟨h1, h2, h3, h4, h5, h6⟩
      go_simp
      with_reducible rfl
    try simp only [Act.put, List.setIfInBounds_toArray, List.set_cons_zero, List.set_cons_succ]
  refine lex_op rfl rfl rfl (fun K hK => ?_)
  go_simp
  refine (cmpi_any a.kind b.kind _).mono ?_
  rintro e w2 ⟨rfl, rfl⟩
  refine hK _ _ (fun _ => HS.out _ (Chg.refl _ _)) ?_
  clear hK K
  try simp only [Act.put, List.setIfInBounds_toArray, List.set_cons_zero, List.set_cons_succ]
  refine lex_op rfl rfl rfl (fun K hK => ?_)
  go_simp
  refine (cmpl_any a.num b.num _).mono ?_
  rintro e w2 ⟨rfl, rfl⟩
  refine hK _ _ (fun _ => HS.out _ (Chg.refl _ _)) ?_
  clear hK K
  try simp only [Act.put, List.setIfInBounds_toArray, List.set_cons_zero, List.set_cons_succ]
  refine lex_op rfl rfl rfl (fun K hK => ?_)
  go_simp
  refine (cmps_any a.str b.str _).mono ?_
  rintro e w2 ⟨rfl, rfl⟩
  refine hK _ _ (fun _ => HS.out _ (Chg.refl _ _)) ?_
  clear hK K
  try simp only [Act.put, List.setIfInBounds_toArray, List.set_cons_zero, List.set_cons_succ]
  refine lex_op rfl rfl rfl (fun K hK => ?_)
  go_simp
  have X3 : Hid (Chg NoB ((w.alloc a.obj).alloc b.obj).drew (((w.alloc a.obj).alloc b.obj).alloc (.cells #[.int .i64 (sgnI a.kind b.kind), .int .i64 (sgnI a.num b.num), .int .i64 (sgnS a.str b.str)] 3)).drew) := Lib.hid ((Chg.refl NoB ((w.alloc a.obj).alloc b.obj).drew).alloc _)
  have B3 : Hid ((((w.alloc a.obj).alloc b.obj).alloc (.cells #[.int .i64 (sgnI a.kind b.kind), .int .i64 (sgnI a.num b.num), .int .i64 (sgnS a.str b.str)] 3)).drew.heap[w.heap.size + 1 + 1]? = some (.cells #[.int .i64 (sgnI a.kind b.kind), .int .i64 (sgnI a.num b.num), .int .i64 (sgnS a.str b.str)] 3 (0, 0))) := Lib.hid (show (World.alloc _ _).heap[w.heap.size + 1 + 1]? = _ from hal_new' (by simp))
  refine hK _ _ (fun _ => HS.out _ X3.out) ?_
  clear hK K
  try simp only [Act.put, List.setIfInBounds_toArray, List.set_cons_zero, List.set_cons_succ]
  refine lex_op rfl rfl rfl (fun K hK => ?_)
  go_simp
  refine (cmpor_any _ _ _ _ _ _ B3.out).mono ?_
  rintro e w2 ⟨rfl, rfl⟩
  refine hK _ _ (fun _ => HS.out _ X3.out) ?_
  clear hK K
  try simp only [Act.put, List.setIfInBounds_toArray, List.set_cons_zero, List.set_cons_succ]
  iterate 1
    refine' lex_free (v := _) rfl rfl rfl ?_ (fun _ _ _ h => h) ?_
    rotate_left
    · rintro W ⟨h1, h2, h3, h4, h5, h6⟩
      go_simp
      with_reducible rfl
    try simp only [Act.put, List.setIfInBounds_toArray, List.set_cons_zero, List.set_cons_succ]
  refine lex_nil ?_
  go_wp2
  go_ret
  exact ⟨rfl, XD.out.trans X3.out (fun _ h => h.elim)⟩
end Go.Proofs.YtnbckfkdmkbopaaGreatDoor

set_option autoImplicit false
namespace Go.Proofs.YtnbckfkdmkbopaaGreatDoor
open Go Go.RowKit

/-- what finding leaves: the value, the error -/
def EOut (r : Val × Int) (p : Nat) (rv : Value) (w : World) (e : Ending) (w' : World) : Prop := e = .returned r.1.val ∧ Chg (OneP p) w w' ∧ FnAt w' p rv r.2
theorem chg_oneP {p : Nat} {w w' : World} (h : Chg NoB w w') : Chg (OneP p) w w' := h.mono fun _ h => h.elim
set_option maxRecDepth 100000 in
set_option maxHeartbeats 2000000 in
theorem leaf_val (p : Nat) (v : Val) (rv : Value) (e0 : Int) (w : World) (h : FnAt w p rv e0) (hv : okV v = true) : Calls Tryz.prog 56 #[.pointer (some ⟨p, 0, none⟩), ExF.val ⟨1, v.kind, v.num, v.str, [], [], 0, none, 0, 0⟩] w (EOut (v, e0) p rv w) := by
  have H := Lib.hid h
  have HV := Lib.hid hv
  clear h hv
  go_enter Tryz.func56, Tryz.ntmps56
  go_wp2_with fail
  have X0 : Hid (Chg NoB w (((w.alloc (ExF.obj ⟨1, v.kind, v.num, v.str, [], [], 0, none, 0, 0⟩)).alloc Val.null.obj))) := Lib.hid (((Chg.refl NoB w).alloc _).alloc _)
  have A0 : Hid ((((w.alloc (ExF.obj ⟨1, v.kind, v.num, v.str, [], [], 0, none, 0, 0⟩)).alloc Val.null.obj)).heap[w.heap.size]? = some (ExF.obj ⟨1, v.kind, v.num, v.str, [], [], 0, none, 0, 0⟩)) := Lib.hid ((hal_old (by simp)).trans hal_new)
  have Z0 : Hid ((((w.alloc (ExF.obj ⟨1, v.kind, v.num, v.str, [], [], 0, none, 0, 0⟩)).alloc Val.null.obj)).heap[w.heap.size + 1]? = some Val.null.obj) := Lib.hid (hal_new' (by simp))
  refine (ok_any v _).mono ?_
  rintro e w2 ⟨rfl, c2⟩
  have X2 := Lib.hid (X0.out.trans c2 (fun k h => h.elim))
  have A2 := Lib.hid (c2.heap A0.out (fun h => h))
  have Z2 := Lib.hid (c2.heap Z0.out (fun h => h))
  clear c2
  obtain ⟨a0, a1, a2, a3, a4, a5, a6, a7⟩ := ExCells.of A2.out
  obtain ⟨z0, z1, z2⟩ := val_cells Z2.out
  have fz : ∀ o, w2.frozen? ⟨w.heap.size + 1, o, none⟩ = false := fun o => frozen_of_row w2 _ o _ _ Z2.out
  rw [HV.out]
  go_wp2
  exact val_ret3 v rfl rfl Z2.out (fun w' c => ⟨rfl, (chg_oneP X2.out).trans c (fun k h => .inr (by unfold OneP at h; omega)), FnAt.chg (FnAt.quiet H.out X2.out) c (by have := lt_of_heap H.out; unfold OneP; omega)⟩)
set_option maxRecDepth 100000 in
set_option maxHeartbeats 4000000 in
theorem leaf_slot (p : Nat) (i : Nat) (row : List Val) (v : Val) (Fr : Nat → Prop) (ao : Option Addr) (cap : Nat) (e0 : Int) (w : World) (h : FnAt w p (.slice ao row.length cap) e0) (hr : ValsAt w Fr (.slice ao row.length cap) row) (hi : row[i]? = some v) (hv : okV v = true) :
    Calls Tryz.prog 56 #[.pointer (some ⟨p, 0, none⟩), ExF.val ⟨24, 0, 0, [], [], [], i, none, 0, 0⟩] w (EOut (v, e0) p (.slice ao row.length cap) w) := by
  have H := Lib.hid h
  have HV := Lib.hid hv
  obtain ⟨hlt, _⟩ := List.getElem?_eq_some_iff.1 hi
  obtain ⟨ao', cap', e, hh⟩ := hr
  cases e
  obtain ⟨b, o, rfl, hb, hF, hrg⟩ := hh (by omega)
  have HR : Hid (w.rangeAt b (o + i * 3) v.cells) := Lib.hid (range_elem hrg (fun _ => rfl) hi)
  have hil : (i : Int) < row.length := by omega
  have hbl := lt_of_heap h
  clear h hv hh hrg hi
  go_enter Tryz.func56, Tryz.ntmps56
  go_wp2_with fail
  have X0 : Hid (Chg NoB w ((w.alloc (ExF.obj ⟨24, 0, 0, [], [], [], i, none, 0, 0⟩)).alloc Val.null.obj).drew) := Lib.hid (((Chg.refl NoB w).alloc _).alloc _).drew
  have A0 : Hid (((w.alloc (ExF.obj ⟨24, 0, 0, [], [], [], i, none, 0, 0⟩)).alloc Val.null.obj).drew.heap[w.heap.size]? = some (ExF.obj ⟨24, 0, 0, [], [], [], i, none, 0, 0⟩)) := Lib.hid (show (World.alloc _ _).heap[w.heap.size]? = _ from (hal_old (by simp)).trans hal_new)
  have Z0 : Hid (((w.alloc (ExF.obj ⟨24, 0, 0, [], [], [], i, none, 0, 0⟩)).alloc Val.null.obj).drew.heap[w.heap.size + 1]? = some Val.null.obj) := Lib.hid (show (World.alloc _ _).heap[w.heap.size + 1]? = _ from hal_new' (by simp))
  have HS : Hid (∀ V, Chg NoB ((w.alloc (ExF.obj ⟨24, 0, 0, [], [], [], i, none, 0, 0⟩)).alloc Val.null.obj).drew V → V.cell? ⟨w.heap.size, 0, none⟩ = some (.int .i64 24) ∧ V.cell? ⟨w.heap.size, 6, none⟩ = some (.int .i64 i) ∧ V.cell? ⟨p, 0, none⟩ = some (.slice (some ⟨b, o, none⟩) row.length cap) ∧
      V.cell? ⟨b, o + i * 3, none⟩ = some (.int .i64 v.kind) ∧ V.cell? ⟨b, o + i * 3 + 1, none⟩ = some (.int .i64 v.num) ∧ V.cell? ⟨b, o + i * 3 + 2, none⟩ = some (sv v.str)) := Lib.hid fun V c => by
    obtain ⟨a0, a1, a2, a3, a4, a5, a6, a7⟩ := ExCells.of (c.heap A0.out (fun h => h))
    have X := X0.out.trans c (fun k h => h.elim)
    have hr := range_of_heap (X.keep b hb (fun h => h)) HR.out
    exact ⟨a0, a6, cell_of_row V p 0 _ _ _ (X.heap H.out (fun h => h)), hr 0 _ rfl, hr 1 _ rfl, hr 2 _ rfl⟩
  refine wp_region_lex (fun V => V.cell? ⟨w.heap.size, 0, none⟩ = some (.int .i64 24) ∧ V.cell? ⟨w.heap.size, 6, none⟩ = some (.int .i64 i) ∧ V.cell? ⟨p, 0, none⟩ = some (.slice (some ⟨b, o, none⟩) row.length cap) ∧
      V.cell? ⟨b, o + i * 3, none⟩ = some (.int .i64 v.kind) ∧ V.cell? ⟨b, o + i * 3 + 1, none⟩ = some (.int .i64 v.num) ∧ V.cell? ⟨b, o + i * 3 + 2, none⟩ = some (sv v.str)) 99 [27] [0, 1, 2, 3, 4, 5, 6, 7, 8, 9, 10, 11, 12, 13, 14, 15, 16, 17, 18, 19, 20, 21, 22, 23, 24, 25, 26, 27, 28, 29] (by kernel_rfl) (by kernel_rfl) (HS.out _ (Chg.refl _ _)) ?_
  iterate 4
    refine' lex_free (v := _) rfl rfl rfl ?_ (fun _ _ _ h => h) ?_
    rotate_left
    · rintro W ⟨h1, h2, h3, h4, h5, h6⟩
      go_simp
      with_reducible rfl
    try simp only [Act.put, List.setIfInBounds_toArray, List.set_cons_zero, List.set_cons_succ]
  iterate 3
    refine' lex_freeG (v := _) rfl rfl rfl ?_ (fun _ _ _ h => h) ?_
    rotate_left
    · rintro W ⟨h1, h2, h3, h4, h5, h6⟩
      go_simp
      with_reducible rfl
    try simp only [Act.put, List.setIfInBounds_toArray, List.set_cons_zero, List.set_cons_succ]
  iterate 2
    refine' lex_free (v := _) rfl rfl rfl ?_ (fun _ _ _ h => h) ?_
    rotate_left
    · rintro W ⟨h1, h2, h3, h4, h5, h6⟩
      go_simp
      with_reducible rfl
    try simp only [Act.put, List.setIfInBounds_toArray, List.set_cons_zero, List.set_cons_succ]
  iterate 8
    refine' lex_freeG (v := _) rfl rfl rfl ?_ (fun _ _ _ h => h) ?_
    rotate_left
    · rintro W ⟨h1, h2, h3, h4, h5, h6⟩
      go_simp
      with_reducible rfl
    try simp only [Act.put, List.setIfInBounds_toArray, List.set_cons_zero, List.set_cons_succ]
  iterate 2
    refine' lex_free (v := _) rfl rfl rfl ?_ (fun _ _ _ h => h) ?_
    rotate_left
    · rintro W ⟨h1, h2, h3, h4, h5, h6⟩
      go_simp
      with_reducible rfl
    try simp only [Act.put, List.setIfInBounds_toArray, List.set_cons_zero, List.set_cons_succ]
  iterate 8
    refine' lex_freeG (v := _) rfl rfl rfl ?_ (fun _ _ _ h => h) ?_
    rotate_left
    · rintro W ⟨h1, h2, h3, h4, h5, h6⟩
      go_simp
      with_reducible rfl
    try simp only [Act.put, List.setIfInBounds_toArray, List.set_cons_zero, List.set_cons_succ]
  refine lex_opG rfl rfl rfl (fun K hK => ?_)
  go_simp
  refine (ok_any v _).mono ?_
  rintro e w2 ⟨rfl, c2⟩
  rw [HV.out]
  refine hK _ _ (fun _ => HS.out _ c2) ?_
  clear hK K
  try simp only [Act.put, List.setIfInBounds_toArray, List.set_cons_zero, List.set_cons_succ]
  iterate 2
    refine' lex_free (v := _) rfl rfl rfl ?_ (fun _ _ _ h => h) ?_
    rotate_left
    · rintro W ⟨h1, h2, h3, h4, h5, h6⟩
      go_simp
      with_reducible rfl
    try simp only [Act.put, List.setIfInBounds_toArray, List.set_cons_zero, List.set_cons_succ]
  refine lex_nil ?_
  have X2 := Lib.hid (X0.out.trans c2 (fun k h => h.elim))
  have Z2 := Lib.hid (c2.heap Z0.out (fun h => h))
  obtain ⟨q1, q2, q3, q4, q5, q6⟩ := HS.out _ c2
  obtain ⟨z0, z1, z2⟩ := val_cells Z2.out
  have fz : ∀ o, w2.frozen? ⟨w.heap.size + 1, o, none⟩ = false := fun o => frozen_of_row w2 _ o _ _ Z2.out
  have n1 : ¬ p = w.heap.size + 1 := by omega
  have n2 : ¬ b = w.heap.size + 1 := by omega
  have n3 : ¬ w.heap.size + 1 = p := by omega
  have n4 : ¬ w.heap.size + 1 = b := by omega
  clear c2
  go_wp2_with fail
  go_region
  go_wp2
  exact val_ret3d v rfl rfl Z2.out (fun w' c => ⟨rfl, (chg_oneP X2.out).trans c (fun k h => .inr (by unfold OneP at h; omega)), FnAt.chg (FnAt.quiet H.out X2.out) c (by unfold OneP; omega)⟩)
end Go.Proofs.YtnbckfkdmkbopaaGreatDoor

set_option autoImplicit false
namespace Go.Proofs.YtnbckfkdmkbopaaGreatDoor
open Go Go.RowKit

theorem EOut.mono {r r' : Val × Int} {p : Nat} {rv : Value} {w : World} {e : Ending} {w' : World} (h : EOut r p rv w e w') (hr : r = r') : EOut r' p rv w e w' := by subst hr; exact h
set_option maxRecDepth 100000 in
set_option maxHeartbeats 4000000 in
theorem find_call (p : Nat) (E : ExF) (f : Nat) (hf : f = if E.m = 0 then 56 else if E.m = 1 then 57 else 58) (hm : E.m ≤ 2) (hk : (E.m : Int) = ekidsN E.k) (rv : Value) (e0 : Int) (w : World) (r : Val × Int) (h : FnAt w p rv e0)
    (hc : ∀ w', Chg NoB w w' → Calls Tryz.prog f #[.pointer (some ⟨p, 0, none⟩), E.val] w' (EOut r p rv w')) : Calls Tryz.prog 33 #[.pointer (some ⟨p, 0, none⟩), E.val] w (EOut r p rv w) := by
  have hmf : ∀ (fn : Fn) (first cap : Array Value) (w : World), (Instr.makeFunc fn first cap).run Tryz.prog w = .ok (.func fn first cap) w := fun _ _ _ _ => rfl
  have hbl := lt_of_heap h
  have H := Lib.hid h
  have HC := Lib.hid hc
  have HKN := Lib.hid hk
  have HFF : Hid (∀ (W : World) (b : Nat), W.heap[b]? = some (.cells #[.func (.func 56) #[.pointer (some ⟨p, 0, none⟩)] #[], .func (.func 57) #[.pointer (some ⟨p, 0, none⟩)] #[], .func (.func 58) #[.pointer (some ⟨p, 0, none⟩)] #[]] 89 (0, 0)) → W.cell? ⟨b, E.m, none⟩ = some (.func (.func f) #[.pointer (some ⟨p, 0, none⟩)] #[])) := Lib.hid (by
    intro W b hW
    have : E.m = 0 ∨ E.m = 1 ∨ E.m = 2 := by omega
    rcases this with h1 | h1 | h1 <;> rw [h1] at hf ⊢ <;> subst hf
    · exact cell_of_row W b 0 _ _ _ hW
    · exact cell_of_row W b 1 _ _ _ hW
    · exact cell_of_row W b 2 _ _ _ hW)
  have hm3 : (E.m : Int) < 3 := by omega
  have ef : ∀ args w, (callFunc f args).run Tryz.prog w = .ok (.enter f args) w := by
    have : E.m = 0 ∨ E.m = 1 ∨ E.m = 2 := by omega
    intro args W
    rcases this with h1 | h1 | h1 <;> rw [h1] at hf <;> subst hf
    · kernel_rfl
    · kernel_rfl
    · kernel_rfl
  clear h hc hk hf
  go_enter Tryz.func33, Tryz.ntmps33
  go_wp2_with fail
  go_quiet ((go_at_call 54; exact quiet_g ⟨_, rfl⟩ (ekids_any E.k _)))
  have hbne : ((E.m : Int) != ekidsN E.k) = false := by rw [← HKN.out]; simp
  rw [hbne]
  clear hbne
  have A0 : Hid (∀ V, Chg NoB (((w.alloc E.obj).alloc Val.null.obj).drewN nq) V → V.heap[w.heap.size]? = some E.obj ∧ V.heap[w.heap.size + 1]? = some Val.null.obj) := Lib.hid fun V c =>
    ⟨c.heap (show (World.alloc _ _).heap[w.heap.size]? = _ from (hal_old (by simp)).trans hal_new) (fun h => h), c.heap (show (World.alloc _ _).heap[w.heap.size + 1]? = _ from hal_new' (by simp)) (fun h => h)⟩
  have X0 : Hid (Chg NoB w (((w.alloc E.obj).alloc Val.null.obj).drewN nq)) := Lib.hid ((((Chg.refl NoB w).alloc _).alloc _).drewN _)
  have HS : Hid (∀ V, Chg NoB (((w.alloc E.obj).alloc Val.null.obj).drewN nq) V → V.cell? ⟨w.heap.size, 0, none⟩ = some (.int .i64 E.k) ∧ V.cell? ⟨w.heap.size, 1, none⟩ = some (.int .i64 E.vk) ∧ V.cell? ⟨w.heap.size, 2, none⟩ = some (.int .i64 E.vn) ∧ V.cell? ⟨w.heap.size, 3, none⟩ = some (sv E.vs) ∧
      V.cell? ⟨w.heap.size, 4, none⟩ = some (sv E.t) ∧ V.cell? ⟨w.heap.size, 5, none⟩ = some (sv E.n) ∧ V.cell? ⟨w.heap.size, 6, none⟩ = some (.int .i64 E.s) ∧ V.cell? ⟨w.heap.size, 7, none⟩ = some (.slice E.ao E.m E.c)) := Lib.hid fun V c => ExCells.of (A0.out V c).1
  go_wp2_with fail
  refine wp_region_lex (fun V => V.cell? ⟨w.heap.size, 0, none⟩ = some (.int .i64 E.k) ∧ V.cell? ⟨w.heap.size, 1, none⟩ = some (.int .i64 E.vk) ∧ V.cell? ⟨w.heap.size, 2, none⟩ = some (.int .i64 E.vn) ∧ V.cell? ⟨w.heap.size, 3, none⟩ = some (sv E.vs) ∧
      V.cell? ⟨w.heap.size, 4, none⟩ = some (sv E.t) ∧ V.cell? ⟨w.heap.size, 5, none⟩ = some (sv E.n) ∧ V.cell? ⟨w.heap.size, 6, none⟩ = some (.int .i64 E.s) ∧ V.cell? ⟨w.heap.size, 7, none⟩ = some (.slice E.ao E.m E.c)) 99 [6, 11, 13, 14] [0, 1, 2, 3, 4, 5, 7, 8, 9, 12, 6, 10, 11, 13, 14] (by kernel_rfl) (by kernel_rfl) (HS.out _ (Chg.refl _ _).drew) ?_
  iterate 10
    refine' lex_free (v := _) rfl rfl rfl ?_ (fun _ _ _ h => h) ?_
    rotate_left
    · rintro W ⟨h1, h2, h3, h4, h5, h6, h7, h8⟩
      go_simp
      with_reducible rfl
    try simp only [Act.put, List.setIfInBounds_toArray, List.set_cons_zero, List.set_cons_succ]
  refine lex_op rfl rfl rfl (fun K hK => ?_)
  go_simp
  have X3 : Hid (Chg NoB (((w.alloc E.obj).alloc Val.null.obj).drewN nq) ((((w.alloc E.obj).alloc Val.null.obj).drewN (nq + 1)).alloc (.cells #[.func (.func 56) #[.pointer (some ⟨p, 0, none⟩)] #[], .func (.func 57) #[.pointer (some ⟨p, 0, none⟩)] #[], .func (.func 58) #[.pointer (some ⟨p, 0, none⟩)] #[]] 89))) := Lib.hid ((Chg.refl NoB (((w.alloc E.obj).alloc Val.null.obj).drewN nq)).drew.alloc _)
  have cF := HFF.out ((((w.alloc E.obj).alloc (.cells #[.int .i64 0, .int .i64 0, .string ⟨#[]⟩] 26)).drewN (nq + 1)).alloc (.cells #[.func (.func 56) #[.pointer (some ⟨p, 0, none⟩)] #[], .func (.func 57) #[.pointer (some ⟨p, 0, none⟩)] #[], .func (.func 58) #[.pointer (some ⟨p, 0, none⟩)] #[]] 89)) (w.heap.size + 1 + 1) (hal_new' (by simp))
  refine hK _ _ (fun _ => HS.out _ X3.out) ?_
  clear hK K
  try simp only [Act.put, List.setIfInBounds_toArray, List.set_cons_zero, List.set_cons_succ]
  iterate 1
    refine' lex_free (v := _) rfl rfl rfl ?_ (fun _ _ _ h => h) ?_
    rotate_left
    · rintro W ⟨h1, h2, h3, h4, h5, h6, h7, h8⟩
      go_simp
      with_reducible rfl
    try simp only [Act.put, List.setIfInBounds_toArray, List.set_cons_zero, List.set_cons_succ]
  refine lex_op rfl rfl rfl (fun K hK => ?_)
  go_simp
  refine hK _ _ (fun _ => HS.out _ X3.out) ?_
  clear hK K
  try simp only [Act.put, List.setIfInBounds_toArray, List.set_cons_zero, List.set_cons_succ]
  clear cF
  refine lex_op rfl rfl rfl (fun K hK => ?_)
  go_simp
  refine (HC.out _ (X0.out.trans X3.out (fun _ h => h.elim))).mono ?_
  rintro e w2 ⟨rfl, c2, f2⟩
  have X2 := Lib.hid ((chg_oneP (p := p) X0.out).trans ((chg_oneP (p := p) X3.out).trans c2 (fun _ h => .inl h)) (fun _ h => .inl h))
  have Z2 := Lib.hid (((chg_oneP (p := p) X3.out).trans c2 (fun _ h => .inl h)).heap (A0.out _ (Chg.refl _ _)).2 (by unfold OneP; omega))
  have A2 := Lib.hid (((chg_oneP (p := p) X3.out).trans c2 (fun _ h => .inl h)).heap (A0.out _ (Chg.refl _ _)).1 (by unfold OneP; omega))
  have F2 := Lib.hid f2
  clear c2 f2
  obtain ⟨z0, z1, z2⟩ := val_cells Z2.out
  have fz : ∀ o, w2.frozen? ⟨w.heap.size + 1, o, none⟩ = false := fun o => frozen_of_row w2 _ o _ _ Z2.out
  refine hK _ _ (fun _ => ExCells.of A2.out) ?_
  clear hK K
  try simp only [Act.put, List.setIfInBounds_toArray, List.set_cons_zero, List.set_cons_succ]
  have c3 := Lib.hid (chg_set3 (w := w2) (b := w.heap.size + 1) (.int .i64 r.1.kind) (.int .i64 r.1.num) (sv r.1.str))
  refine lex_op rfl rfl rfl (fun K hK => ?_)
  go_simp
  refine hK _ _ (fun _ => ExCells.of (c3.out.heap A2.out (by unfold OneP; omega))) ?_
  clear hK K
  try simp only [Act.put, List.setIfInBounds_toArray, List.set_cons_zero, List.set_cons_succ]
  refine lex_nil ?_
  go_wp2
  exact val_ret3 r.1 rfl rfl Z2.out (fun w' c => ⟨rfl, X2.out.trans c (fun k h => .inr (by unfold OneP at h; omega)), FnAt.chg F2.out c (by unfold OneP; omega)⟩)
end Go.Proofs.YtnbckfkdmkbopaaGreatDoor
