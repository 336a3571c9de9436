/-
  Plans: turned, greatest. No condition beyond each lemma's own.
  Plans: literals. No condition beyond each lemma's own.
-/
import Derived.Test.YtnbckfkdmkbopaaGreatDoorTH26
set_option autoImplicit false
namespace Go.Proofs.YtnbckfkdmkbopaaGreatDoor
open Go Go.RowKit

theorem chg_below {w w' : World} (h : Below w.heap.size w w') : Chg NoB w w' := ⟨h.1, h.2, h.3, h.size, fun k hk _ => h.block k hk⟩
theorem zero_int (w : World) : (zeroValue 3).run Tryz.prog w = .ok (.int .i64 0) w := by kernel_rfl
set_option maxRecDepth 100000 in
set_option maxHeartbeats 1000000 in
theorem turned_any (k : Int) (w : World) : Calls Tryz.prog 47 #[.int .i64 k] w fun e w' => e = .returned (.int .i64 (turnL k)) ∧ Chg NoB w w' := by
  have hmm := @run_makeMap Tryz.prog
  have kt : ∀ n : Int, KeyTy (.int .i64) (.int .i64 n) := fun _ => rfl
  have step : ∀ (W : World) (es : Array MapEntry) (c : Nat) (a b : Int), W.heap[w.heap.size]? = some (.map es c) → KeysTy (.int .i64) es.toList → (Chg NoB w W) →
      ∃ W' es' c', (Instr.mapUpdate 152 (.map (some w.heap.size)) (.int .i64 a) (.int .i64 b)).run Tryz.prog W = .ok () W' ∧ W'.heap[w.heap.size]? = some (.map es' c') ∧ KeysTy (.int .i64) es'.toList ∧ Chg NoB w W' ∧ (∀ n : Int, mfind es'.toList (.int .i64 n) = if n == a then some (.int .i64 b) else mfind es.toList (.int .i64 n)) := by
    intro W es c a b hb hk hc
    refine ⟨_, _, _, run_mapUpdate (P := Tryz.prog) W (t := 152) (kt := 3) (et := 3) (d := .int .i64) (k := .int .i64 a) (v := .int .i64 b) Tryz.underlying152 Tryz.underlying3 (kt a) hb hk, hobj_eq (lt_of_heap hb), mput_keys (kt a) hk, hc.setObj (.inr (Nat.le_refl _)) _, fun n => ?_⟩
    rw [mfind_mput (kt a), kmatch_int]
  obtain ⟨W1, e1, c1, r1, b1, k1, x1, f1⟩ := step (w.alloc (.map #[] 0)) #[] 0 10 10 hal_new (by intro e he; simp at he) ((Chg.refl _ _).alloc _)
  obtain ⟨W2, e2, c2, r2, b2, k2, x2, f2⟩ := step W1 e1 c1 12 14 b1 k1 x1
  obtain ⟨W3, e3, c3, r3, b3, k3, x3, f3⟩ := step W2 e2 c2 13 15 b2 k2 x2
  obtain ⟨W4, e4, c4, r4, b4, k4, x4, f4⟩ := step W3 e3 c3 14 12 b3 k3 x3
  obtain ⟨W5, e5, c5, r5, b5, k5, x5, f5⟩ := step W4 e4 c4 15 13 b4 k4 x4
  have hlk := run_lookup (P := Tryz.prog) W5 (t := 152) (kt := 3) (et := 3) (d := .int .i64) (k := .int .i64 k) (z := .int .i64 0) Tryz.underlying152 Tryz.underlying3 (kt k) b5 k5 zero_int false
  have hv : (mfind e5.toList (.int .i64 k)).getD (.int .i64 0) = .int .i64 (turnL k) := by
    rw [f5, f4, f3, f2, f1]
    unfold turnL
    by_cases h0 : k = 15
    · subst h0; rfl
    by_cases h1 : k = 14
    · subst h1; rfl
    by_cases h2 : k = 13
    · subst h2; rfl
    by_cases h3 : k = 12
    · subst h3; rfl
    by_cases h4 : k = 10
    · subst h4; rfl
    simp [h0, h1, h2, h3, h4, mfind]
  rw [hv] at hlk
  simp only [if_false, Bool.false_eq_true] at hlk
  have X5 := Lib.hid x5
  clear step b1 b2 b3 b4 b5 k1 k2 k3 k4 k5 x1 x2 x3 x4 x5 f1 f2 f3 f4 f5 hv kt
  go_enter Tryz.func47, Tryz.ntmps47
  go_wp2
  go_ret
  exact ⟨rfl, X5.out⟩
set_option maxRecDepth 100000 in
set_option maxHeartbeats 1000000 in
theorem greatest_any (k : Int) (w : World) : Calls Tryz.prog 25 #[.int .i64 k] w fun e w' => e = .returned (greatL k).val ∧ Chg NoB w w' := by
  by_cases h1 : k = 1
  · subst h1
    go_enter Tryz.func25, Tryz.ntmps25
    go_wp2
    exact val_ret (greatL 1) rfl rfl (hal_new' (by simp)) ⟨rfl, (Chg.refl _ _).alloc _⟩
  · by_cases h2 : k = 2
    · subst h2
      go_enter Tryz.func25, Tryz.ntmps25
      go_wp2
      exact val_ret (greatL 2) rfl rfl (hal_new' (by simp)) ⟨rfl, (Chg.refl _ _).alloc _⟩
    · have b1 : (k == 1) = false := by simpa using h1
      have b2 : (k == 2) = false := by simpa using h2
      obtain ⟨R, hR⟩ : ∃ R, List.replicate 64 (255 : UInt8) = R := ⟨_, rfl⟩
      have hg : Hid (greatL k = ⟨k, 0, R⟩) := Lib.hid (by rw [← hR]; simp [greatL, h1, h2])
      have HR : Hid ((Lib.repeatL [255] 64 : Str) = R) := Lib.hid (by rw [← hR]; decide)
      rw [hg.out]
      have hrep := strings_Repeat ⟨#[255]⟩ 64
      clear h1 h2 hR
      go_enter Tryz.func25, Tryz.ntmps25
      go_wp2_with fail
      refine (hrep _ (by decide) (by decide)).mono ?_
      rintro e w2 ⟨rfl, c2⟩
      have X0 : Chg NoB w (w.alloc Val.null.obj) := (Chg.refl NoB w).alloc _
      have X2 := Lib.hid (X0.trans (chg_below c2) (fun _ h => .inl h))
      have Z2 : Hid (w2.heap[w.heap.size]? = some Val.null.obj) := Lib.hid ((chg_below c2).heap hal_new (fun h => h))
      clear c2 X0
      obtain ⟨z0, z1, z2⟩ := val_cells Z2.out
      have fz : ∀ o, w2.frozen? ⟨w.heap.size, o, none⟩ = false := fun o => frozen_of_row w2 _ o _ _ Z2.out
      rw [HR.out]
      go_wp2_with fail
      exact val_ret3 ⟨k, 0, R⟩ rfl rfl Z2.out (fun w' c => ⟨rfl, X2.out.trans c (fun k h => .inr (by unfold OneP at h; omega))⟩)
end Go.Proofs.YtnbckfkdmkbopaaGreatDoor

set_option autoImplicit false
namespace Go.Proofs.YtnbckfkdmkbopaaGreatDoor
open Go Go.RowKit

/-- what is said of a literal: its value, and whether it is one -/
def LOut (r : Option Val) (w : World) (e : Ending) (w' : World) : Prop :=
  Chg NoB w w' ∧ ∃ v : Val, e = .returned (.tuple #[v.val, .bool r.isSome]) ∧ ∀ c, r = some c → v = c
theorem LOut.mk {r : Option Val} {w w' : World} {v : Val} {b : Bool} (hr : r = if b then some v else none) (c : Chg NoB w w') : LOut r w (.returned (.tuple #[v.val, .bool b])) w' := by
  subst hr
  refine ⟨c, v, by cases b <;> rfl, fun c h => ?_⟩
  cases b with
  | true => simpa using h
  | false => cases h
theorem val_ret3Ed {fn : Func} {Q : Ending → World → Prop} {tmps : Array Value} {w : World} {b q r : Nat} {Z : Val} (V : Val) (hres : fn.results = #[.cell q 26, .tmp r]) (hq : tmps.getD q undef = .pointer (some ⟨b, 0, none⟩))
    (hb : w.heap[b]? = some Z.obj) (hQ : ∀ w', Chg (OneP b) w w' → Q (.returned (.tuple #[V.val, tmps.getD r undef])) w') :
    bodyPost Tryz.prog fn Q Exit.ret ⟨tmps, []⟩ (((w.setCell ⟨b, 0, none⟩ (.int .i64 V.kind)).setCell ⟨b, 1, none⟩ (.int .i64 V.num)).setCell ⟨b, 2, none⟩ (sv V.str)).drew := by
  have h1 := val_set hb V
  have c1 := chg_set3 (w := w) (b := b) (.int .i64 V.kind) (.int .i64 V.num) (sv V.str)
  generalize World.setCell _ _ (sv V.str) = W at h1 c1 ⊢
  exact bodyPost_ret (v := .tuple #[V.val, tmps.getD r undef]) (results_big2 (P := Tryz.prog) hres tmps _ b V.cells _ hq (range_block (show W.drew.heap[b]? = _ from h1)) Tryz.underlying26 rfl (by kernel_rfl)) rfl (hQ _ c1.drew)
theorem val_retE {fn : Func} {Q : Ending → World → Prop} {tmps : Array Value} {w : World} {b q r : Nat} (V : Val) (hres : fn.results = #[.cell q 26, .tmp r]) (hq : tmps.getD q undef = .pointer (some ⟨b, 0, none⟩))
    (hb : w.heap[b]? = some V.obj) (hQ : Q (.returned (.tuple #[V.val, tmps.getD r undef])) w) : bodyPost Tryz.prog fn Q Exit.ret ⟨tmps, []⟩ w :=
  bodyPost_ret (v := .tuple #[V.val, tmps.getD r undef]) (results_big2 (P := Tryz.prog) hres tmps _ b V.cells _ hq (range_block hb) Tryz.underlying26 rfl (by kernel_rfl)) rfl hQ
set_option maxRecDepth 100000 in
set_option maxHeartbeats 2000000 in
theorem lit_val (v : Val) (w : World) : Calls Tryz.prog 48 #[ExF.val ⟨1, v.kind, v.num, v.str, [], [], 0, none, 0, 0⟩] w (LOut (litL (.val v)) w) := by
  have X0 : Hid (Chg NoB w ((w.alloc (ExF.obj ⟨1, v.kind, v.num, v.str, [], [], 0, none, 0, 0⟩)).alloc Val.null.obj).drew) := Lib.hid (((Chg.refl NoB w).alloc _).alloc _).drew
  have A0 : Hid (∀ V, Chg NoB ((w.alloc (ExF.obj ⟨1, v.kind, v.num, v.str, [], [], 0, none, 0, 0⟩)).alloc Val.null.obj).drew V → V.heap[w.heap.size]? = some (ExF.obj ⟨1, v.kind, v.num, v.str, [], [], 0, none, 0, 0⟩)) := Lib.hid fun V c => c.heap (show (World.alloc _ _).heap[w.heap.size]? = _ from (hal_old (by simp)).trans hal_new) (fun h => h)
  have Z0 : Hid (∀ V, Chg NoB ((w.alloc (ExF.obj ⟨1, v.kind, v.num, v.str, [], [], 0, none, 0, 0⟩)).alloc Val.null.obj).drew V → V.heap[w.heap.size + 1]? = some Val.null.obj) := Lib.hid fun V c => c.heap (show (World.alloc _ _).heap[w.heap.size + 1]? = _ from hal_new' (by simp)) (fun h => h)
  have HS : Hid (∀ V, Chg NoB ((w.alloc (ExF.obj ⟨1, v.kind, v.num, v.str, [], [], 0, none, 0, 0⟩)).alloc Val.null.obj).drew V → V.cell? ⟨w.heap.size, 1, none⟩ = some (.int .i64 v.kind) ∧ V.cell? ⟨w.heap.size, 2, none⟩ = some (.int .i64 v.num) ∧ V.cell? ⟨w.heap.size, 3, none⟩ = some (sv v.str)) := Lib.hid fun V c => by
    obtain ⟨_, a1, a2, a3, _⟩ := ExCells.of (A0.out V c)
    exact ⟨a1, a2, a3⟩
  obtain ⟨q, hq⟩ : ∃ q, okV v = q := ⟨_, rfl⟩
  have HQ := Lib.hid hq
  have HL : Hid (litL (.val v) = if v.kind ≠ 0 ∧ q = true then some v else none) := Lib.hid (by simp only [litL]; rw [hq])
  clear hq
  by_cases h0 : v.kind = 0
  · have b1 : (v.kind != 0) = false := by simp [h0]
    have H0 := Lib.hid h0
    clear h0
    go_enter Tryz.func48, Tryz.ntmps48
    go_wp2_with fail
    refine wp_region_lex (fun V => V.cell? ⟨w.heap.size, 1, none⟩ = some (.int .i64 v.kind) ∧ V.cell? ⟨w.heap.size, 2, none⟩ = some (.int .i64 v.num) ∧ V.cell? ⟨w.heap.size, 3, none⟩ = some (sv v.str)) 99 [9, 11] [0, 1, 2, 3, 4, 5, 6, 7, 8, 9, 10, 11, 12] (by kernel_rfl) (by kernel_rfl) (HS.out _ (Chg.refl _ _)) ?_
    iterate 7
      refine' lex_free (v := _) rfl rfl rfl ?_ (fun _ _ _ h => h) ?_
      rotate_left
      · rintro W ⟨h1, h2, h3⟩
        go_simp
        with_reducible rfl
      try simp only [Act.put, List.setIfInBounds_toArray, List.set_cons_zero, List.set_cons_succ]
    iterate 2
      refine lex_skip rfl rfl rfl (fun _ _ _ h => h) ?_
      try simp only [Act.put, List.setIfInBounds_toArray, List.set_cons_zero, List.set_cons_succ]
    refine lex_skipE rfl rfl rfl (HS.out _ (Chg.refl _ _)) ?_
    try simp only [Act.put, List.setIfInBounds_toArray, List.set_cons_zero, List.set_cons_succ]
    iterate 1
      refine' lex_free (v := _) rfl rfl rfl ?_ (fun _ _ _ h => h) ?_
      rotate_left
      · rintro W ⟨h1, h2, h3⟩
        go_simp
        with_reducible rfl
      try simp only [Act.put, List.setIfInBounds_toArray, List.set_cons_zero, List.set_cons_succ]
    refine lex_op rfl rfl rfl (fun K hK => ?_)
    go_simp
    obtain ⟨_, a1, a2, a3, _⟩ := ExCells.of (show (((w.alloc (ExF.obj ⟨1, v.kind, v.num, v.str, [], [], 0, none, 0, 0⟩)).alloc v.obj).drew).heap[w.heap.size]? = some (ExF.obj ⟨1, v.kind, v.num, v.str, [], [], 0, none, 0, 0⟩) from show (World.alloc _ _).heap[w.heap.size]? = _ from (hal_old (by simp)).trans hal_new)
    refine hK _ _ (fun _ => ⟨a1, a2, a3⟩) ?_
    clear hK K
    try simp only [Act.put, List.setIfInBounds_toArray, List.set_cons_zero, List.set_cons_succ]
    iterate 1
      refine' lex_free (v := _) rfl rfl rfl ?_ (fun _ _ _ h => h) ?_
      rotate_left
      · rintro W ⟨h1, h2, h3⟩
        go_simp
        with_reducible rfl
      try simp only [Act.put, List.setIfInBounds_toArray, List.set_cons_zero, List.set_cons_succ]
    refine lex_nil ?_
    clear a1 a2 a3
    go_wp2
    exact val_retE v rfl rfl (show (World.alloc _ _).heap[w.heap.size + 1]? = _ from hal_new' (by simp)) (LOut.mk (by rw [HL.out]; simp [H0.out]) (((Chg.refl NoB w).alloc _).alloc _).drew)
  · have b1 : (v.kind != 0) = true := by simp [h0]
    have H0 := Lib.hid h0
    clear h0
    go_enter Tryz.func48, Tryz.ntmps48
    go_wp2_with fail
    refine wp_region_lex (fun V => V.cell? ⟨w.heap.size, 1, none⟩ = some (.int .i64 v.kind) ∧ V.cell? ⟨w.heap.size, 2, none⟩ = some (.int .i64 v.num) ∧ V.cell? ⟨w.heap.size, 3, none⟩ = some (sv v.str)) 99 [9, 11] [0, 1, 2, 3, 4, 5, 6, 7, 8, 9, 10, 11, 12] (by kernel_rfl) (by kernel_rfl) (HS.out _ (Chg.refl _ _)) ?_
    iterate 7
      refine' lex_free (v := _) rfl rfl rfl ?_ (fun _ _ _ h => h) ?_
      rotate_left
      · rintro W ⟨h1, h2, h3⟩
        go_simp
        with_reducible rfl
      try simp only [Act.put, List.setIfInBounds_toArray, List.set_cons_zero, List.set_cons_succ]
    iterate 2
      refine' lex_freeG (v := _) rfl rfl rfl ?_ (fun _ _ _ h => h) ?_
      rotate_left
      · rintro W ⟨h1, h2, h3⟩
        go_simp
        with_reducible rfl
      try simp only [Act.put, List.setIfInBounds_toArray, List.set_cons_zero, List.set_cons_succ]
    refine lex_opG rfl rfl rfl (fun K hK => ?_)
    go_simp
    refine (ok_any v _).mono ?_
    rintro e w2 ⟨rfl, c2⟩
    rw [HQ.out]
    refine hK _ _ (fun _ => HS.out _ c2) ?_
    clear hK K
    try simp only [Act.put, List.setIfInBounds_toArray, List.set_cons_zero, List.set_cons_succ]
    iterate 1
      refine' lex_free (v := _) rfl rfl rfl ?_ (fun _ _ _ h => h) ?_
      rotate_left
      · rintro W ⟨h1, h2, h3⟩
        go_simp
        with_reducible rfl
      try simp only [Act.put, List.setIfInBounds_toArray, List.set_cons_zero, List.set_cons_succ]
    have X2 := Lib.hid (X0.out.trans c2 (fun _ h => h.elim))
    have Z2 := Lib.hid (Z0.out _ c2)
    have A2 := Lib.hid (A0.out _ c2)
    clear c2
    obtain ⟨z0, z1, z2⟩ := val_cells Z2.out
    have fz : ∀ o, w2.frozen? ⟨w.heap.size + 1, o, none⟩ = false := fun o => frozen_of_row w2 _ o _ _ Z2.out
    refine lex_op rfl rfl rfl (fun K hK => ?_)
    go_simp
    have A3 := (chg_set3 (w := w2) (b := w.heap.size + 1) (.int .i64 v.kind) (.int .i64 v.num) (sv v.str)).heap A2.out (by unfold OneP; omega)
    obtain ⟨_, a1, a2, a3, _⟩ := ExCells.of A3
    refine hK _ _ (fun _ => ⟨a1, a2, a3⟩) ?_
    clear hK K
    try simp only [Act.put, List.setIfInBounds_toArray, List.set_cons_zero, List.set_cons_succ]
    iterate 1
      refine' lex_free (v := _) rfl rfl rfl ?_ (fun _ _ _ h => h) ?_
      rotate_left
      · rintro W ⟨h1, h2, h3⟩
        go_simp
        with_reducible rfl
      try simp only [Act.put, List.setIfInBounds_toArray, List.set_cons_zero, List.set_cons_succ]
    refine lex_nil ?_
    clear a1 a2 a3 A3
    go_wp2
    exact val_ret3E v rfl rfl Z2.out (fun w' c => LOut.mk (by rw [HL.out]; simp [H0.out]) (X2.out.trans c (fun k h => .inr (by unfold OneP at h; omega))))
theorem litL_neg (a : Ex) (A : ExF) (w : World) (F : Nat → Prop) (h : ExAt w F a A) (cs : List Bcol) (t : Int) (ht : tyL cs a = some t) : litL (.un 3 a) = if (A.k == 1 && (A.vk == 1 && (A.vn != -9223372036854775808))) then some (intV (wrap64 (-A.vn))) else none := by
  cases a with
  | val v =>
    subst h
    simp only [litL]
    by_cases h1 : v.kind = 1
    · by_cases h2 : v.num = -9223372036854775808 <;> simp [h1, h2]
    · simp [h1]
  | slot i => subst h; rfl
  | col t n => subst h; rfl
  | cnt => subst h; rfl
  | un k b =>
    have hk := h.kind
    simp only [Ex.kind] at hk
    have : ¬ A.k = 1 := by
      rw [hk]
      simp only [tyL] at ht
      split at ht
      · rename_i hu; intro hk1; subst hk1; simp [unK] at hu
      · cases ht
    simp [litL, this]
  | bin k b c =>
    have hk := h.kind
    simp only [Ex.kind] at hk
    have : ¬ A.k = 1 := by
      rw [hk]
      simp only [tyL] at ht
      split at ht
      · rename_i hu; intro hk1; subst hk1; simp [binK] at hu
      · cases ht
    simp [litL, this]
set_option maxRecDepth 100000 in
set_option maxHeartbeats 2000000 in
theorem lit_neg (a : Ex) (cs : List Bcol) (t : Int) (ht : tyL cs a = some t) (E : ExF) (F : Nat → Prop) (w : World) (hx : ExAt w F (.un 3 a) E) : Calls Tryz.prog 48 #[E.val] w (LOut (litL (.un 3 a)) w) := by
  obtain ⟨b, c, A, rfl, hb, _, hrg, hxa⟩ := hx
  have HL := Lib.hid (litL_neg a A w F hxa cs t ht)
  clear hxa ht
  obtain ⟨ak, avk, avn, avs, at', an, as', aao, am, ac⟩ := A
  simp only at HL
  have X0 : Hid (Chg NoB w ((w.alloc (ExF.obj ⟨3, 0, 0, [], [], [], 0, some ⟨b, 0, none⟩, 1, c⟩)).alloc Val.null.obj).drew) := Lib.hid (((Chg.refl NoB w).alloc _).alloc _).drew
  have A0 : Hid (∀ V, Chg NoB ((w.alloc (ExF.obj ⟨3, 0, 0, [], [], [], 0, some ⟨b, 0, none⟩, 1, c⟩)).alloc Val.null.obj).drew V → V.heap[w.heap.size]? = some (ExF.obj ⟨3, 0, 0, [], [], [], 0, some ⟨b, 0, none⟩, 1, c⟩)) := Lib.hid fun V c => c.heap (show (World.alloc _ _).heap[w.heap.size]? = _ from (hal_old (by simp)).trans hal_new) (fun h => h)
  have Z0 : Hid (∀ V, Chg NoB ((w.alloc (ExF.obj ⟨3, 0, 0, [], [], [], 0, some ⟨b, 0, none⟩, 1, c⟩)).alloc Val.null.obj).drew V → V.heap[w.heap.size + 1]? = some Val.null.obj) := Lib.hid fun V c => c.heap (show (World.alloc _ _).heap[w.heap.size + 1]? = _ from hal_new' (by simp)) (fun h => h)
  have HS : Hid (∀ V, Chg NoB ((w.alloc (ExF.obj ⟨3, 0, 0, [], [], [], 0, some ⟨b, 0, none⟩, 1, c⟩)).alloc Val.null.obj).drew V → V.cell? ⟨w.heap.size, 7, none⟩ = some (.slice (some ⟨b, 0, none⟩) 1 c) ∧ V.cell? ⟨b, 0, none⟩ = some (.int .i64 ak) ∧ V.cell? ⟨b, 1, none⟩ = some (.int .i64 avk) ∧ V.cell? ⟨b, 2, none⟩ = some (.int .i64 avn) ∧ V.cell? ⟨b, 3, none⟩ = some (sv avs)) := Lib.hid fun V cV => by
    obtain ⟨_, _, _, _, _, _, _, a7⟩ := ExCells.of (A0.out V cV)
    obtain ⟨k0, k1, k2, k3, _⟩ := ex_range (range_of_heap ((X0.out.trans cV (fun _ h => h.elim)).keep b hb (fun h => h)) hrg)
    exact ⟨a7, k0, k1, k2, k3⟩
  clear hrg
  go_enter Tryz.func48, Tryz.ntmps48
  go_wp2_with fail
  refine wp_region_lex (fun V => V.cell? ⟨w.heap.size, 7, none⟩ = some (.slice (some ⟨b, 0, none⟩) 1 c) ∧ V.cell? ⟨b, 0, none⟩ = some (.int .i64 ak) ∧ V.cell? ⟨b, 1, none⟩ = some (.int .i64 avk) ∧ V.cell? ⟨b, 2, none⟩ = some (.int .i64 avn) ∧ V.cell? ⟨b, 3, none⟩ = some (sv avs)) 99 [11, 12] [0, 1, 2, 3, 4, 5, 6, 7, 8, 9, 10, 11, 12, 13] (by kernel_rfl) (by kernel_rfl) (HS.out _ (Chg.refl _ _)) ?_
  iterate 11
    refine' lex_free (v := _) rfl rfl rfl ?_ (fun _ _ _ h => h) ?_
    rotate_left
    · rintro W ⟨h1, h2, h3, h4, h5⟩
      go_simp
      with_reducible rfl
    try simp only [Act.put, List.setIfInBounds_toArray, List.set_cons_zero, List.set_cons_succ]
  refine lex_op rfl rfl rfl (fun K hK => ?_)
  go_simp
  have C3 : Hid (∀ o, Chg NoB ((w.alloc (ExF.obj ⟨3, 0, 0, [], [], [], 0, some ⟨b, 0, none⟩, 1, c⟩)).alloc Val.null.obj).drew (((w.alloc (ExF.obj ⟨3, 0, 0, [], [], [], 0, some ⟨b, 0, none⟩, 1, c⟩)).alloc Val.null.obj).alloc o).drew) := Lib.hid fun o => (Chg.refl NoB ((w.alloc (ExF.obj ⟨3, 0, 0, [], [], [], 0, some ⟨b, 0, none⟩, 1, c⟩)).alloc Val.null.obj).drew).alloc o
  refine hK _ _ (fun _ => HS.out _ (C3.out _)) ?_
  clear hK K
  try simp only [Act.put, List.setIfInBounds_toArray, List.set_cons_zero, List.set_cons_succ]
  refine lex_op rfl rfl rfl (fun K hK => ?_)
  go_simp
  refine hK _ _ (fun _ => HS.out _ (C3.out _)) ?_
  clear hK K
  try simp only [Act.put, List.setIfInBounds_toArray, List.set_cons_zero, List.set_cons_succ]
  iterate 1
    refine' lex_free (v := _) rfl rfl rfl ?_ (fun _ _ _ h => h) ?_
    rotate_left
    · rintro W ⟨h1, h2, h3, h4, h5⟩
      go_simp
      with_reducible rfl
    try simp only [Act.put, List.setIfInBounds_toArray, List.set_cons_zero, List.set_cons_succ]
  refine lex_nil ?_
  have X4 : Hid (Chg NoB w ((((w.alloc (ExF.obj ⟨3, 0, 0, [], [], [], 0, some ⟨b, 0, none⟩, 1, c⟩)).alloc Val.null.obj).alloc (Val.obj ⟨avk, avn, avs⟩)).drew)) := Lib.hid ((((Chg.refl NoB w).alloc _).alloc _).alloc _).drew
  have Z4 : Hid (((((w.alloc (ExF.obj ⟨3, 0, 0, [], [], [], 0, some ⟨b, 0, none⟩, 1, c⟩)).alloc Val.null.obj).alloc (Val.obj ⟨avk, avn, avs⟩)).drew).heap[w.heap.size + 1]? = some Val.null.obj) := Lib.hid (show (World.alloc _ _).heap[w.heap.size + 1]? = _ from (hal_old (by simp)).trans (hal_new' (by simp)))
  have T4 : Hid (((((w.alloc (ExF.obj ⟨3, 0, 0, [], [], [], 0, some ⟨b, 0, none⟩, 1, c⟩)).alloc Val.null.obj).alloc (Val.obj ⟨avk, avn, avs⟩)).drew).heap[w.heap.size + 1 + 1]? = some (Val.obj ⟨avk, avn, avs⟩)) := Lib.hid (show (World.alloc _ _).heap[w.heap.size + 1 + 1]? = _ from hal_new' (by simp))
  generalize hW : World.drew _ = W4
  rw [show ((((w.alloc (ExF.obj ⟨3, 0, 0, [], [], [], 0, some ⟨b, 0, none⟩, 1, c⟩)).alloc Val.null.obj).alloc (Val.obj ⟨avk, avn, avs⟩)).drew) = W4 from hW] at X4 Z4 T4
  clear hW C3 HS A0 Z0 X0
  obtain ⟨q1, hq1⟩ : ∃ q, (ak == 1) = q := ⟨_, rfl⟩
  obtain ⟨q2, hq2⟩ : ∃ q, (avk == 1) = q := ⟨_, rfl⟩
  obtain ⟨q3, hq3⟩ : ∃ q, (avn != -9223372036854775808) = q := ⟨_, rfl⟩
  rw [hq1, hq2, hq3] at HL
  rw [hq1]
  have HS : Hid (W4.drew.cell? ⟨w.heap.size + 1 + 1, 0, none⟩ = some (.int .i64 avk) ∧ W4.drew.cell? ⟨w.heap.size + 1 + 1, 1, none⟩ = some (.int .i64 avn)) := Lib.hid (by
    obtain ⟨t0, t1, _⟩ := val_cells (show W4.drew.heap[w.heap.size + 1 + 1]? = some (Val.obj ⟨avk, avn, avs⟩) from T4.out)
    exact ⟨t0, t1⟩)
  obtain ⟨z0, z1, z2⟩ := val_cells Z4.out
  have fz : ∀ o, W4.frozen? ⟨w.heap.size + 1, o, none⟩ = false := fun o => frozen_of_row W4 _ o _ _ Z4.out
  have hor : q1 = false ∨ (q1 = true ∧ q2 = false) ∨ (q1 = true ∧ q2 = true) := by cases q1 <;> cases q2 <;> simp
  clear hq1
  rcases hor with rfl | ⟨rfl, rfl⟩ | ⟨rfl, rfl⟩
  · go_wp2_with fail
    refine wp_region_lex (fun V => V.cell? ⟨w.heap.size + 1 + 1, 0, none⟩ = some (.int .i64 avk) ∧ V.cell? ⟨w.heap.size + 1 + 1, 1, none⟩ = some (.int .i64 avn)) 99 [15] [0, 1, 2, 3, 4, 5, 6, 7, 8, 9, 10, 11, 12, 13, 14, 15, 16] (by kernel_rfl) (by kernel_rfl) HS.out ?_
    iterate 6
      refine' lex_free (v := _) rfl rfl rfl ?_ (fun _ _ _ h => h) ?_
      rotate_left
      · rintro W ⟨h1, h2⟩
        go_simp
        with_reducible rfl
      try simp only [Act.put, List.setIfInBounds_toArray, List.set_cons_zero, List.set_cons_succ]
    iterate 3
      refine lex_skip rfl rfl rfl (fun _ _ _ h => h) ?_
      try simp only [Act.put, List.setIfInBounds_toArray, List.set_cons_zero, List.set_cons_succ]
    iterate 2
      refine' lex_free (v := _) rfl rfl rfl ?_ (fun _ _ _ h => h) ?_
      rotate_left
      · rintro W ⟨h1, h2⟩
        go_simp
        with_reducible rfl
      try simp only [Act.put, List.setIfInBounds_toArray, List.set_cons_zero, List.set_cons_succ]
    iterate 3
      refine lex_skip rfl rfl rfl (fun _ _ _ h => h) ?_
      try simp only [Act.put, List.setIfInBounds_toArray, List.set_cons_zero, List.set_cons_succ]
    iterate 1
      refine' lex_free (v := _) rfl rfl rfl ?_ (fun _ _ _ h => h) ?_
      rotate_left
      · rintro W ⟨h1, h2⟩
        go_simp
        with_reducible rfl
      try simp only [Act.put, List.setIfInBounds_toArray, List.set_cons_zero, List.set_cons_succ]
    refine lex_op rfl rfl rfl (fun K hK => ?_)
    go_simp
    have T5 := (chg_set3 (w := W4) (b := w.heap.size + 1) (.int .i64 1) (.int .i64 (IntKind.i64.wrap (-avn))) (sv [])).heap T4.out (by unfold OneP; omega)
    obtain ⟨t0', t1', _⟩ := val_cells (V := ⟨avk, avn, avs⟩) (show ((((W4.setCell ⟨w.heap.size + 1, 0, none⟩ (.int .i64 1)).setCell ⟨w.heap.size + 1, 1, none⟩ (.int .i64 (IntKind.i64.wrap (-avn)))).setCell ⟨w.heap.size + 1, 2, none⟩ (sv [])).drew).heap[w.heap.size + 1 + 1]? = _ from T5)
    refine hK _ _ (fun _ => ⟨t0', t1'⟩) ?_
    clear hK K
    try simp only [Act.put, List.setIfInBounds_toArray, List.set_cons_zero, List.set_cons_succ]
    iterate 1
      refine' lex_free (v := _) rfl rfl rfl ?_ (fun _ _ _ h => h) ?_
      rotate_left
      · rintro W ⟨h1, h2⟩
        go_simp
        with_reducible rfl
      try simp only [Act.put, List.setIfInBounds_toArray, List.set_cons_zero, List.set_cons_succ]
    refine lex_nil ?_
    clear t0' t1' T5
    go_wp2
    exact val_ret3Ed ⟨1, IntKind.i64.wrap (-avn), []⟩ rfl rfl Z4.out (fun w' c => LOut.mk (by rw [HL.out, IntWalk.i64_left]; rfl) (X4.out.trans c (fun k h => .inr (by unfold OneP at h; omega))))
  · go_wp2_with fail
    refine wp_region_lex (fun V => V.cell? ⟨w.heap.size + 1 + 1, 0, none⟩ = some (.int .i64 avk) ∧ V.cell? ⟨w.heap.size + 1 + 1, 1, none⟩ = some (.int .i64 avn)) 99 [15] [0, 1, 2, 3, 4, 5, 6, 7, 8, 9, 10, 11, 12, 13, 14, 15, 16] (by kernel_rfl) (by kernel_rfl) HS.out ?_
    iterate 6
      refine' lex_free (v := _) rfl rfl rfl ?_ (fun _ _ _ h => h) ?_
      rotate_left
      · rintro W ⟨h1, h2⟩
        go_simp
        with_reducible rfl
      try simp only [Act.put, List.setIfInBounds_toArray, List.set_cons_zero, List.set_cons_succ]
    iterate 3
      refine' lex_freeG (v := _) rfl rfl rfl ?_ (fun _ _ _ h => h) ?_
      rotate_left
      · rintro W ⟨h1, h2⟩
        go_simp
        with_reducible rfl
      try simp only [Act.put, List.setIfInBounds_toArray, List.set_cons_zero, List.set_cons_succ]
    iterate 2
      refine' lex_free (v := _) rfl rfl rfl ?_ (fun _ _ _ h => h) ?_
      rotate_left
      · rintro W ⟨h1, h2⟩
        go_simp
        with_reducible rfl
      try simp only [Act.put, List.setIfInBounds_toArray, List.set_cons_zero, List.set_cons_succ]
    iterate 3
      refine lex_skip rfl rfl rfl (fun _ _ _ h => h) ?_
      try simp only [Act.put, List.setIfInBounds_toArray, List.set_cons_zero, List.set_cons_succ]
    iterate 1
      refine' lex_free (v := _) rfl rfl rfl ?_ (fun _ _ _ h => h) ?_
      rotate_left
      · rintro W ⟨h1, h2⟩
        go_simp
        with_reducible rfl
      try simp only [Act.put, List.setIfInBounds_toArray, List.set_cons_zero, List.set_cons_succ]
    refine lex_op rfl rfl rfl (fun K hK => ?_)
    go_simp
    have T5 := (chg_set3 (w := W4) (b := w.heap.size + 1) (.int .i64 1) (.int .i64 (IntKind.i64.wrap (-avn))) (sv [])).heap T4.out (by unfold OneP; omega)
    obtain ⟨t0', t1', _⟩ := val_cells (V := ⟨avk, avn, avs⟩) (show ((((W4.setCell ⟨w.heap.size + 1, 0, none⟩ (.int .i64 1)).setCell ⟨w.heap.size + 1, 1, none⟩ (.int .i64 (IntKind.i64.wrap (-avn)))).setCell ⟨w.heap.size + 1, 2, none⟩ (sv [])).drew).heap[w.heap.size + 1 + 1]? = _ from T5)
    refine hK _ _ (fun _ => ⟨t0', t1'⟩) ?_
    clear hK K
    try simp only [Act.put, List.setIfInBounds_toArray, List.set_cons_zero, List.set_cons_succ]
    iterate 1
      refine' lex_free (v := _) rfl rfl rfl ?_ (fun _ _ _ h => h) ?_
      rotate_left
      · rintro W ⟨h1, h2⟩
        go_simp
        with_reducible rfl
      try simp only [Act.put, List.setIfInBounds_toArray, List.set_cons_zero, List.set_cons_succ]
    refine lex_nil ?_
    clear t0' t1' T5
    go_wp2
    exact val_ret3Ed ⟨1, IntKind.i64.wrap (-avn), []⟩ rfl rfl Z4.out (fun w' c => LOut.mk (by rw [HL.out, IntWalk.i64_left]; rfl) (X4.out.trans c (fun k h => .inr (by unfold OneP at h; omega))))
  · go_wp2_with fail
    refine wp_region_lex (fun V => V.cell? ⟨w.heap.size + 1 + 1, 0, none⟩ = some (.int .i64 avk) ∧ V.cell? ⟨w.heap.size + 1 + 1, 1, none⟩ = some (.int .i64 avn)) 99 [15] [0, 1, 2, 3, 4, 5, 6, 7, 8, 9, 10, 11, 12, 13, 14, 15, 16] (by kernel_rfl) (by kernel_rfl) HS.out ?_
    iterate 6
      refine' lex_free (v := _) rfl rfl rfl ?_ (fun _ _ _ h => h) ?_
      rotate_left
      · rintro W ⟨h1, h2⟩
        go_simp
        with_reducible rfl
      try simp only [Act.put, List.setIfInBounds_toArray, List.set_cons_zero, List.set_cons_succ]
    iterate 3
      refine' lex_freeG (v := _) rfl rfl rfl ?_ (fun _ _ _ h => h) ?_
      rotate_left
      · rintro W ⟨h1, h2⟩
        go_simp
        with_reducible rfl
      try simp only [Act.put, List.setIfInBounds_toArray, List.set_cons_zero, List.set_cons_succ]
    iterate 2
      refine' lex_free (v := _) rfl rfl rfl ?_ (fun _ _ _ h => h) ?_
      rotate_left
      · rintro W ⟨h1, h2⟩
        go_simp
        with_reducible rfl
      try simp only [Act.put, List.setIfInBounds_toArray, List.set_cons_zero, List.set_cons_succ]
    iterate 3
      refine' lex_freeG (v := _) rfl rfl rfl ?_ (fun _ _ _ h => h) ?_
      rotate_left
      · rintro W ⟨h1, h2⟩
        go_simp
        with_reducible rfl
      try simp only [Act.put, List.setIfInBounds_toArray, List.set_cons_zero, List.set_cons_succ]
    iterate 1
      refine' lex_free (v := _) rfl rfl rfl ?_ (fun _ _ _ h => h) ?_
      rotate_left
      · rintro W ⟨h1, h2⟩
        go_simp
        with_reducible rfl
      try simp only [Act.put, List.setIfInBounds_toArray, List.set_cons_zero, List.set_cons_succ]
    refine lex_op rfl rfl rfl (fun K hK => ?_)
    go_simp
    have T5 := (chg_set3 (w := W4) (b := w.heap.size + 1) (.int .i64 1) (.int .i64 (IntKind.i64.wrap (-avn))) (sv [])).heap T4.out (by unfold OneP; omega)
    obtain ⟨t0', t1', _⟩ := val_cells (V := ⟨avk, avn, avs⟩) (show ((((W4.setCell ⟨w.heap.size + 1, 0, none⟩ (.int .i64 1)).setCell ⟨w.heap.size + 1, 1, none⟩ (.int .i64 (IntKind.i64.wrap (-avn)))).setCell ⟨w.heap.size + 1, 2, none⟩ (sv [])).drew).heap[w.heap.size + 1 + 1]? = _ from T5)
    refine hK _ _ (fun _ => ⟨t0', t1'⟩) ?_
    clear hK K
    try simp only [Act.put, List.setIfInBounds_toArray, List.set_cons_zero, List.set_cons_succ]
    iterate 1
      refine' lex_free (v := _) rfl rfl rfl ?_ (fun _ _ _ h => h) ?_
      rotate_left
      · rintro W ⟨h1, h2⟩
        go_simp
        with_reducible rfl
      try simp only [Act.put, List.setIfInBounds_toArray, List.set_cons_zero, List.set_cons_succ]
    refine lex_nil ?_
    clear t0' t1' T5
    go_wp2
    exact val_ret3Ed ⟨1, IntKind.i64.wrap (-avn), []⟩ rfl rfl Z4.out (fun w' c => LOut.mk (by rw [HL.out, IntWalk.i64_left]; rfl) (X4.out.trans c (fun k h => .inr (by unfold OneP at h; omega))))
end Go.Proofs.YtnbckfkdmkbopaaGreatDoor
