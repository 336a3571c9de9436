/-
  Evaluation: truth, fail, kids, number. No condition beyond each lemma's own.
  Evaluation: arithmetic. No condition beyond each lemma's own.
-/
import Derived.Test.YtnbckfkdmkbopaaGreatDoorTH21
set_option autoImplicit false
namespace Go.Proofs.YtnbckfkdmkbopaaGreatDoor
open Go Go.RowKit

abbrev Val.obj (v : Val) : Obj := .cells #[.int .i64 v.kind, .int .i64 v.num, sv v.str] 26 (0, 0)
theorem val_ret {fn : Func} {Q : Ending → World → Prop} {tmps : Array Value} {w : World} {b q : Nat} (V : Val) (hres : fn.results = #[.cell q 26]) (hq : tmps.getD q undef = .pointer (some ⟨b, 0, none⟩))
    (hb : w.heap[b]? = some V.obj) (hQ : Q (.returned V.val) w) : bodyPost Tryz.prog fn Q Exit.ret ⟨tmps, []⟩ w :=
  bodyPost_ret (v := V.val) (results_big1 (P := Tryz.prog) hres tmps w b V.cells _ hq (range_block hb) Tryz.underlying26 rfl (by kernel_rfl)) rfl hQ
theorem val_set {w : World} {b : Nat} {Z : Val} (h : w.heap[b]? = some Z.obj) (V : Val) :
    (((w.setCell ⟨b, 0, none⟩ (.int .i64 V.kind)).setCell ⟨b, 1, none⟩ (.int .i64 V.num)).setCell ⟨b, 2, none⟩ (sv V.str)).heap[b]? = some V.obj := by
  have h1 : (w.setCell ⟨b, 0, none⟩ (.int .i64 V.kind)).heap[b]? = some (.cells #[.int .i64 V.kind, .int .i64 Z.num, sv Z.str] 26 (0, 0)) := hset_eq (i := 0) (v := .int .i64 V.kind) h
  have h2 : ((w.setCell ⟨b, 0, none⟩ (.int .i64 V.kind)).setCell ⟨b, 1, none⟩ (.int .i64 V.num)).heap[b]? = some (.cells #[.int .i64 V.kind, .int .i64 V.num, sv Z.str] 26 (0, 0)) := hset_eq (i := 1) (v := .int .i64 V.num) h1
  exact hset_eq (i := 2) (v := sv V.str) h2
theorem chg_set3 {w : World} {b : Nat} (c0 c1 c2 : Value) : Chg (OneP b) w (((w.setCell ⟨b, 0, none⟩ c0).setCell ⟨b, 1, none⟩ c1).setCell ⟨b, 2, none⟩ c2) :=
  Chg.setCell (p := ⟨b, 2, none⟩) (Chg.setCell (p := ⟨b, 1, none⟩) (Chg.setCell (p := ⟨b, 0, none⟩) (Chg.refl (OneP b) w) (.inl rfl) _) (.inl rfl) _) (.inl rfl) _
theorem val_ret3 {fn : Func} {Q : Ending → World → Prop} {tmps : Array Value} {w : World} {b q : Nat} {Z : Val} (V : Val) (hres : fn.results = #[.cell q 26]) (hq : tmps.getD q undef = .pointer (some ⟨b, 0, none⟩))
    (hb : w.heap[b]? = some Z.obj) (hQ : ∀ w', Chg (OneP b) w w' → Q (.returned V.val) w') :
    bodyPost Tryz.prog fn Q Exit.ret ⟨tmps, []⟩ (((w.setCell ⟨b, 0, none⟩ (.int .i64 V.kind)).setCell ⟨b, 1, none⟩ (.int .i64 V.num)).setCell ⟨b, 2, none⟩ (sv V.str)) :=
  val_ret V hres hq (val_set hb V) (hQ _ (chg_set3 _ _ _))
theorem val_ret3d {fn : Func} {Q : Ending → World → Prop} {tmps : Array Value} {w : World} {b q : Nat} {Z : Val} (V : Val) (hres : fn.results = #[.cell q 26]) (hq : tmps.getD q undef = .pointer (some ⟨b, 0, none⟩))
    (hb : w.heap[b]? = some Z.obj) (hQ : ∀ w', Chg (OneP b) w w' → Q (.returned V.val) w') :
    bodyPost Tryz.prog fn Q Exit.ret ⟨tmps, []⟩ (((w.setCell ⟨b, 0, none⟩ (.int .i64 V.kind)).setCell ⟨b, 1, none⟩ (.int .i64 V.num)).setCell ⟨b, 2, none⟩ (sv V.str)).drew := by
  have h1 := val_set hb V
  have c1 := chg_set3 (w := w) (b := b) (.int .i64 V.kind) (.int .i64 V.num) (sv V.str)
  generalize World.setCell _ _ (sv V.str) = W at h1 c1 ⊢
  exact val_ret V hres hq (show W.drew.heap[b]? = _ from h1) (hQ _ c1.drew)
theorem val_ret3a {fn : Func} {Q : Ending → World → Prop} {tmps : Array Value} {w : World} {b q : Nat} {Z : Val} (o : Obj) (V : Val) (hres : fn.results = #[.cell q 26]) (hq : tmps.getD q undef = .pointer (some ⟨b, 0, none⟩))
    (hb : w.heap[b]? = some Z.obj) (hQ : ∀ w', Chg (OneP b) w w' → Q (.returned V.val) w') :
    bodyPost Tryz.prog fn Q Exit.ret ⟨tmps, []⟩ ((((w.setCell ⟨b, 0, none⟩ (.int .i64 V.kind)).setCell ⟨b, 1, none⟩ (.int .i64 V.num)).setCell ⟨b, 2, none⟩ (sv V.str)).alloc o) := by
  have h1 := val_set hb V
  have c1 := chg_set3 (w := w) (b := b) (.int .i64 V.kind) (.int .i64 V.num) (sv V.str)
  generalize World.setCell _ _ (sv V.str) = W at h1 c1 ⊢
  exact val_ret V hres hq ((hal_old (lt_of_heap h1)).trans h1) (hQ _ (c1.alloc _))
theorem val_cells {w : World} {b : Nat} {V : Val} (h : w.heap[b]? = some V.obj) : w.cell? ⟨b, 0, none⟩ = some (.int .i64 V.kind) ∧ w.cell? ⟨b, 1, none⟩ = some (.int .i64 V.num) ∧ w.cell? ⟨b, 2, none⟩ = some (sv V.str) :=
  ⟨cell_of_row w b 0 _ _ _ h, cell_of_row w b 1 _ _ _ h, cell_of_row w b 2 _ _ _ h⟩
/-- the finder: the row that it holds, its error -/
def FnAt (w : World) (p : Nat) (rv : Value) (e : Int) : Prop := w.heap[p]? = some (.cells #[rv, .int .i64 e] 88 (0, 0))
theorem FnAt.quiet {w w' : World} {p : Nat} {rv : Value} {e : Int} (h : FnAt w p rv e) (c : Chg NoB w w') : FnAt w' p rv e := c.heap h (fun h => h)
theorem FnAt.chg {w w' : World} {G : Nat → Prop} {p : Nat} {rv : Value} {e : Int} (h : FnAt w p rv e) (c : Chg G w w') (hG : ¬ G p) : FnAt w' p rv e := c.heap h hG
theorem truth_any (b : Bool) (w : World) : Calls Tryz.prog 86 #[.bool b] w fun e w' => e = .returned (truthV b).val ∧ Chg NoB w w' := by
  cases b with
  | true =>
    go_enter Tryz.func86, Tryz.ntmps86
    go_wp2
    exact val_ret (truthV true) rfl rfl (hal_new' (by simp)) ⟨rfl, (Chg.refl _ _).alloc _⟩
  | false =>
    go_enter Tryz.func86, Tryz.ntmps86
    go_wp2
    exact val_ret (truthV false) rfl rfl (hal_new' (by simp)) ⟨rfl, (Chg.refl _ _).alloc _⟩
theorem fail_any (p : Nat) (q : Int) (rv : Value) (e0 : Int) (w : World) (h : FnAt w p rv e0) : Calls Tryz.prog 55 #[.pointer (some ⟨p, 0, none⟩), .int .i64 q] w fun e w' => e = .returned Val.null.val ∧ Hid (Chg (OneP p) w w' ∧ FnAt w' p rv (fstE e0 q)) := by
  have hl := lt_of_heap h
  have c1 : w.cell? ⟨p, 1, none⟩ = some (.int .i64 e0) := cell_of_row w p 1 _ _ _ h
  have fz : w.frozen? ⟨p, 1, none⟩ = false := frozen_of_row w p 1 _ _ h
  have H := Lib.hid h
  clear h
  by_cases he : e0 = 0
  · subst he
    go_enter Tryz.func55, Tryz.ntmps55
    go_wp2
    refine val_ret Val.null rfl rfl (hal_new' (by simp)) ⟨rfl, Lib.hid ⟨((Chg.refl (OneP p) w).setCell (p := ⟨p, 1, none⟩) (.inl rfl) _).alloc _, ?_⟩⟩
    exact (hal_old (by simpa using hl)).trans (hset_eq (i := 1) (v := .int .i64 q) H.out)
  · have hb : (e0 == 0) = false := by simpa using he
    have HE := Lib.hid he
    clear he
    go_enter Tryz.func55, Tryz.ntmps55
    go_wp2
    refine val_ret Val.null rfl rfl (hal_new' (by simp)) ⟨rfl, Lib.hid ⟨(Chg.refl (OneP p) w).alloc _, ?_⟩⟩
    unfold fstE
    rw [if_neg HE.out]
    exact (hal_old hl).trans H.out
def ekidsN (k : Int) : Int := if k = 1 ∨ k = 24 ∨ k = 2 then 0 else if unK k then 1 else if binK k then 2 else -1
theorem ekids_any (k : Int) (w : World) : Calls Tryz.prog 54 #[.int .i64 k] w fun e w' => e = .returned (.int .i64 (ekidsN k)) ∧ w = w' := by
  by_cases h1 : k = 1
  · subst h1
    go_enter Tryz.func54, Tryz.ntmps54
    go_wp2
    go_ret
    exact ⟨rfl, rfl⟩
  by_cases h0 : k = 24
  · subst h0
    go_enter Tryz.func54, Tryz.ntmps54
    go_wp2
    go_ret
    exact ⟨rfl, rfl⟩
  by_cases h2 : k = 2
  · subst h2
    go_enter Tryz.func54, Tryz.ntmps54
    go_wp2
    go_ret
    exact ⟨rfl, rfl⟩
  by_cases h3 : k = 3
  · subst h3
    go_enter Tryz.func54, Tryz.ntmps54
    go_wp2
    go_ret
    exact ⟨rfl, rfl⟩
  by_cases h4 : k = 4
  · subst h4
    go_enter Tryz.func54, Tryz.ntmps54
    go_wp2
    go_ret
    exact ⟨rfl, rfl⟩
  by_cases h5 : k = 18
  · subst h5
    go_enter Tryz.func54, Tryz.ntmps54
    go_wp2
    go_ret
    exact ⟨rfl, rfl⟩
  by_cases h6 : k = 19
  · subst h6
    go_enter Tryz.func54, Tryz.ntmps54
    go_wp2
    go_ret
    exact ⟨rfl, rfl⟩
  have hK : Hid (ekidsN k = if 5 ≤ k ∧ k ≤ 17 then 2 else -1) := Lib.hid (by simp [ekidsN, unK, binK, h0, h1, h2, h3, h4, h5, h6])
  by_cases h7 : 5 ≤ k
  · by_cases h8 : k ≤ 17
    · go_enter Tryz.func54, Tryz.ntmps54
      go_wp2
      go_ret
      exact ⟨by rw [hK.out, if_pos ⟨h7, h8⟩]; rfl, rfl⟩
    · go_enter Tryz.func54, Tryz.ntmps54
      go_wp2
      go_ret
      exact ⟨by rw [hK.out, if_neg (by omega)]; rfl, rfl⟩
  · go_enter Tryz.func54, Tryz.ntmps54
    go_wp2
    go_ret
    exact ⟨by rw [hK.out, if_neg (by omega)]; rfl, rfl⟩
end Go.Proofs.YtnbckfkdmkbopaaGreatDoor

set_option autoImplicit false
namespace Go.Proofs.YtnbckfkdmkbopaaGreatDoor
open Go Go.RowKit

/-- what arithmetic leaves -/
def NOut (r : Except Int Int) (p : Nat) (rv : Value) (w : World) (e : Ending) (w' : World) : Prop :=
  Chg (OneP p) w w' ∧ match r with
  | .ok n => e = .returned (intV n).val ∧ FnAt w' p rv 0
  | .error q => e = .returned Val.null.val ∧ FnAt w' p rv q
theorem NOut.yes {r : Except Int Int} {p : Nat} {rv : Value} {w w' : World} {n : Int} (hr : r = .ok n) (c : Chg (OneP p) w w') (h : FnAt w' p rv 0) : NOut r p rv w (.returned (intV n).val) w' := by
  subst hr; exact ⟨c, rfl, h⟩
theorem NOut.no {r : Except Int Int} {p : Nat} {rv : Value} {w w' : World} {q : Int} (hr : r = .error q) (c : Chg (OneP p) w w') (h : FnAt w' p rv q) : NOut r p rv w (.returned Val.null.val) w' := by
  subst hr; exact ⟨c, rfl, h⟩
theorem arith_add (p : Nat) (a b : Int) (rv : Value) (w : World) (h : FnAt w p rv 0) : Calls Tryz.prog 88 #[.pointer (some ⟨p, 0, none⟩), .int .i64 5, .int .i64 a, .int .i64 b] w (NOut (numL2 5 a b) p rv w) := by
  have H := Lib.hid h
  have H2 : Hid (∀ o, FnAt (w.alloc o) p rv 0) := Lib.hid fun o => (hal_old (lt_of_heap h)).trans h
  obtain ⟨q, hq⟩ : ∃ q, (decide (a < wrap64 (a + b)) == decide (0 < b)) = q := ⟨_, rfl⟩
  have HN : Hid (numL2 5 a b = if q then .ok (wrap64 (a + b)) else .error 35) := Lib.hid (by rw [← hq]; rfl)
  clear h
  cases q with
  | true =>
    go_enter Tryz.func88, Tryz.ntmps88
    go_wp2_with fail
    exact val_ret (intV (wrap64 (a + b))) rfl rfl (hal_new' (by simp)) (NOut.yes HN.out ((Chg.refl _ _).alloc _) (H2.out _))
  | false =>
    go_enter Tryz.func88, Tryz.ntmps88
    go_wp2_with fail
    refine (fail_any p 35 rv 0 _ (H2.out _)).mono ?_
    rintro e w2 ⟨rfl, HC⟩
    have Z2 : Hid (w2.heap[w.heap.size]? = some Val.null.obj) := Lib.hid (HC.out.1.heap hal_new (fun e => by have := lt_of_heap H.out; unfold OneP at e; omega))
    have C2 := Lib.hid (((Chg.refl (OneP p) w).alloc Val.null.obj).trans HC.out.1 (fun _ h => .inl h))
    obtain ⟨z0, z1, z2⟩ := val_cells Z2.out
    have fz : ∀ o, w2.frozen? ⟨w.heap.size, o, none⟩ = false := fun o => frozen_of_row w2 _ o _ _ Z2.out
    have hl := lt_of_heap H.out
    go_wp2_with fail
    exact val_ret3 Val.null rfl rfl Z2.out (fun w' c => NOut.no HN.out (C2.out.trans c (fun k h => .inr (by unfold OneP at h; omega))) (FnAt.chg HC.out.2 c (by unfold OneP; omega)))
theorem arith_sub (p : Nat) (a b : Int) (rv : Value) (w : World) (h : FnAt w p rv 0) : Calls Tryz.prog 88 #[.pointer (some ⟨p, 0, none⟩), .int .i64 6, .int .i64 a, .int .i64 b] w (NOut (numL2 6 a b) p rv w) := by
  have H := Lib.hid h
  have H2 : Hid (∀ o, FnAt (w.alloc o) p rv 0) := Lib.hid fun o => (hal_old (lt_of_heap h)).trans h
  obtain ⟨q, hq⟩ : ∃ q, (decide (wrap64 (a - b) < a) == decide (0 < b)) = q := ⟨_, rfl⟩
  have HN : Hid (numL2 6 a b = if q then .ok (wrap64 (a - b)) else .error 35) := Lib.hid (by rw [← hq]; rfl)
  clear h
  cases q with
  | true =>
    go_enter Tryz.func88, Tryz.ntmps88
    go_wp2_with fail
    exact val_ret (intV (wrap64 (a - b))) rfl rfl (hal_new' (by simp)) (NOut.yes HN.out ((Chg.refl _ _).alloc _) (H2.out _))
  | false =>
    go_enter Tryz.func88, Tryz.ntmps88
    go_wp2_with fail
    refine (fail_any p 35 rv 0 _ (H2.out _)).mono ?_
    rintro e w2 ⟨rfl, HC⟩
    have Z2 : Hid (w2.heap[w.heap.size]? = some Val.null.obj) := Lib.hid (HC.out.1.heap hal_new (fun e => by have := lt_of_heap H.out; unfold OneP at e; omega))
    have C2 := Lib.hid (((Chg.refl (OneP p) w).alloc Val.null.obj).trans HC.out.1 (fun _ h => .inl h))
    obtain ⟨z0, z1, z2⟩ := val_cells Z2.out
    have fz : ∀ o, w2.frozen? ⟨w.heap.size, o, none⟩ = false := fun o => frozen_of_row w2 _ o _ _ Z2.out
    have hl := lt_of_heap H.out
    go_wp2_with fail
    exact val_ret3 Val.null rfl rfl Z2.out (fun w' c => NOut.no HN.out (C2.out.trans c (fun k h => .inr (by unfold OneP at h; omega))) (FnAt.chg HC.out.2 c (by unfold OneP; omega)))
set_option maxHeartbeats 2000000 in
theorem arith_mul (p : Nat) (a b : Int) (rv : Value) (w : World) (h : FnAt w p rv 0) : Calls Tryz.prog 88 #[.pointer (some ⟨p, 0, none⟩), .int .i64 7, .int .i64 a, .int .i64 b] w (NOut (numL2 7 a b) p rv w) := by
  have H := Lib.hid h
  have H2 : Hid (∀ o, FnAt (w.alloc o) p rv 0) := Lib.hid fun o => (hal_old (lt_of_heap h)).trans h
  obtain ⟨q1, hq1⟩ : ∃ q, (a == 0) = q := ⟨_, rfl⟩
  obtain ⟨q2, hq2⟩ : ∃ q, (wrap64 ((wrap64 (a * b)).tdiv a) == b) = q := ⟨_, rfl⟩
  obtain ⟨q3, hq3⟩ : ∃ q, (a == -1) = q := ⟨_, rfl⟩
  obtain ⟨q4, hq4⟩ : ∃ q, (b == -9223372036854775808) = q := ⟨_, rfl⟩
  have HN : Hid (numL2 7 a b = if q1 || (q2 && !(q3 && q4)) then .ok (wrap64 (a * b)) else .error 35) := Lib.hid (by rw [← hq1, ← hq2, ← hq3, ← hq4]; rfl)
  clear h
  cases q1 with
  | true =>
    clear hq2 hq3 hq4
    go_enter Tryz.func88, Tryz.ntmps88
    go_wp2_with fail
    exact val_ret (intV (wrap64 (a * b))) rfl rfl (hal_new' (by simp)) (NOut.yes HN.out ((Chg.refl _ _).alloc _) (H2.out _))
  | false =>
    have hne : ¬ a = 0 := by simpa using hq1
    cases q2 with
    | false =>
      clear hq3 hq4
      go_enter Tryz.func88, Tryz.ntmps88
      go_wp2_with fail
      refine (fail_any p 35 rv 0 _ (H2.out _)).mono ?_
      rintro e w2 ⟨rfl, HC⟩
      have Z2 : Hid (w2.heap[w.heap.size]? = some Val.null.obj) := Lib.hid (HC.out.1.heap hal_new (fun e => by have := lt_of_heap H.out; unfold OneP at e; omega))
      have C2 := Lib.hid (((Chg.refl (OneP p) w).alloc Val.null.obj).trans HC.out.1 (fun _ h => .inl h))
      obtain ⟨z0, z1, z2⟩ := val_cells Z2.out
      have fz : ∀ o, w2.frozen? ⟨w.heap.size, o, none⟩ = false := fun o => frozen_of_row w2 _ o _ _ Z2.out
      have hl := lt_of_heap H.out
      go_wp2_with fail
      exact val_ret3 Val.null rfl rfl Z2.out (fun w' c => NOut.no HN.out (C2.out.trans c (fun k h => .inr (by unfold OneP at h; omega))) (FnAt.chg HC.out.2 c (by unfold OneP; omega)))
    | true =>
      cases q3 with
      | false =>
        clear hq4
        go_enter Tryz.func88, Tryz.ntmps88
        go_wp2_with fail
        exact val_ret (intV (wrap64 (a * b))) rfl rfl (hal_new' (by simp)) (NOut.yes HN.out ((Chg.refl _ _).alloc _) (H2.out _))
      | true =>
        cases q4 with
        | false =>
          go_enter Tryz.func88, Tryz.ntmps88
          go_wp2_with fail
          exact val_ret (intV (wrap64 (a * b))) rfl rfl (hal_new' (by simp)) (NOut.yes HN.out ((Chg.refl _ _).alloc _) (H2.out _))
        | true =>
          go_enter Tryz.func88, Tryz.ntmps88
          go_wp2_with fail
          refine (fail_any p 35 rv 0 _ (H2.out _)).mono ?_
          rintro e w2 ⟨rfl, HC⟩
          have Z2 : Hid (w2.heap[w.heap.size]? = some Val.null.obj) := Lib.hid (HC.out.1.heap hal_new (fun e => by have := lt_of_heap H.out; unfold OneP at e; omega))
          have C2 := Lib.hid (((Chg.refl (OneP p) w).alloc Val.null.obj).trans HC.out.1 (fun _ h => .inl h))
          obtain ⟨z0, z1, z2⟩ := val_cells Z2.out
          have fz : ∀ o, w2.frozen? ⟨w.heap.size, o, none⟩ = false := fun o => frozen_of_row w2 _ o _ _ Z2.out
          have hl := lt_of_heap H.out
          go_wp2_with fail
          exact val_ret3 Val.null rfl rfl Z2.out (fun w' c => NOut.no HN.out (C2.out.trans c (fun k h => .inr (by unfold OneP at h; omega))) (FnAt.chg HC.out.2 c (by unfold OneP; omega)))
set_option maxHeartbeats 2000000 in
theorem arith_div (p : Nat) (a b : Int) (rv : Value) (w : World) (h : FnAt w p rv 0) : Calls Tryz.prog 88 #[.pointer (some ⟨p, 0, none⟩), .int .i64 8, .int .i64 a, .int .i64 b] w (NOut (numL2 8 a b) p rv w) := by
  have H := Lib.hid h
  have H2 : Hid (∀ o, FnAt (w.alloc o) p rv 0) := Lib.hid fun o => (hal_old (lt_of_heap h)).trans h
  obtain ⟨q1, hq1⟩ : ∃ q, (b == 0) = q := ⟨_, rfl⟩
  obtain ⟨q2, hq2⟩ : ∃ q, (b == -1) = q := ⟨_, rfl⟩
  obtain ⟨q3, hq3⟩ : ∃ q, (a == -9223372036854775808) = q := ⟨_, rfl⟩
  have HN : Hid (numL2 8 a b = if q1 then .error 36 else if q2 then (if q3 then .error 35 else .ok (wrap64 (-a))) else .ok (wrap64 (a.tdiv b))) := Lib.hid (by rw [← hq1, ← hq2, ← hq3]; rfl)
  clear h
  cases q1 with
  | true =>
    clear hq2 hq3
    go_enter Tryz.func88, Tryz.ntmps88
    go_wp2_with fail
    refine (fail_any p 36 rv 0 _ (H2.out _)).mono ?_
    rintro e w2 ⟨rfl, HC⟩
    have Z2 : Hid (w2.heap[w.heap.size]? = some Val.null.obj) := Lib.hid (HC.out.1.heap hal_new (fun e => by have := lt_of_heap H.out; unfold OneP at e; omega))
    have C2 := Lib.hid (((Chg.refl (OneP p) w).alloc Val.null.obj).trans HC.out.1 (fun _ h => .inl h))
    obtain ⟨z0, z1, z2⟩ := val_cells Z2.out
    have fz : ∀ o, w2.frozen? ⟨w.heap.size, o, none⟩ = false := fun o => frozen_of_row w2 _ o _ _ Z2.out
    have hl := lt_of_heap H.out
    go_wp2_with fail
    exact val_ret3 Val.null rfl rfl Z2.out (fun w' c => NOut.no HN.out (C2.out.trans c (fun k h => .inr (by unfold OneP at h; omega))) (FnAt.chg HC.out.2 c (by unfold OneP; omega)))
  | false =>
    have hne : ¬ b = 0 := by simpa using hq1
    cases q2 with
    | false =>
      have hne2 : ¬ b = -1 := by simpa using hq2
      clear hq3
      go_enter Tryz.func88, Tryz.ntmps88
      go_wp2_with fail
      exact val_ret (intV (wrap64 (a.tdiv b))) rfl rfl (hal_new' (by simp)) (NOut.yes HN.out ((Chg.refl _ _).alloc _) (H2.out _))
    | true =>
      cases q3 with
      | false =>
        have h3 : (a != -9223372036854775808) = true := by simp only [bne, hq3]; rfl
        go_enter Tryz.func88, Tryz.ntmps88
        go_wp2_with fail
        exact val_ret (intV (wrap64 (-a))) rfl rfl (hal_new' (by simp)) (NOut.yes HN.out ((Chg.refl _ _).alloc _) (H2.out _))
      | true =>
        have h3 : (a != -9223372036854775808) = false := by simp only [bne, hq3]; rfl
        go_enter Tryz.func88, Tryz.ntmps88
        go_wp2_with fail
        refine (fail_any p 35 rv 0 _ (H2.out _)).mono ?_
        rintro e w2 ⟨rfl, HC⟩
        have Z2 : Hid (w2.heap[w.heap.size]? = some Val.null.obj) := Lib.hid (HC.out.1.heap hal_new (fun e => by have := lt_of_heap H.out; unfold OneP at e; omega))
        have C2 := Lib.hid (((Chg.refl (OneP p) w).alloc Val.null.obj).trans HC.out.1 (fun _ h => .inl h))
        obtain ⟨z0, z1, z2⟩ := val_cells Z2.out
        have fz : ∀ o, w2.frozen? ⟨w.heap.size, o, none⟩ = false := fun o => frozen_of_row w2 _ o _ _ Z2.out
        have hl := lt_of_heap H.out
        go_wp2_with fail
        exact val_ret3 Val.null rfl rfl Z2.out (fun w' c => NOut.no HN.out (C2.out.trans c (fun k h => .inr (by unfold OneP at h; omega))) (FnAt.chg HC.out.2 c (by unfold OneP; omega)))
theorem arith_mod (p : Nat) (a b : Int) (rv : Value) (w : World) (h : FnAt w p rv 0) : Calls Tryz.prog 88 #[.pointer (some ⟨p, 0, none⟩), .int .i64 9, .int .i64 a, .int .i64 b] w (NOut (numL2 9 a b) p rv w) := by
  have H := Lib.hid h
  have H2 : Hid (∀ o, FnAt (w.alloc o) p rv 0) := Lib.hid fun o => (hal_old (lt_of_heap h)).trans h
  obtain ⟨q1, hq1⟩ : ∃ q, (b == 0) = q := ⟨_, rfl⟩
  obtain ⟨q2, hq2⟩ : ∃ q, (b == -1) = q := ⟨_, rfl⟩
  obtain ⟨q3, hq3⟩ : ∃ q, (a == -9223372036854775808) = q := ⟨_, rfl⟩
  have HN : Hid (numL2 9 a b = if q1 then .error 36 else if q2 then .ok 0 else .ok (a.tmod b)) := Lib.hid (by rw [← hq1, ← hq2]; rfl)
  clear h
  cases q1 with
  | true =>
    clear hq2 hq3
    go_enter Tryz.func88, Tryz.ntmps88
    go_wp2_with fail
    refine (fail_any p 36 rv 0 _ (H2.out _)).mono ?_
    rintro e w2 ⟨rfl, HC⟩
    have Z2 : Hid (w2.heap[w.heap.size]? = some Val.null.obj) := Lib.hid (HC.out.1.heap hal_new (fun e => by have := lt_of_heap H.out; unfold OneP at e; omega))
    have C2 := Lib.hid (((Chg.refl (OneP p) w).alloc Val.null.obj).trans HC.out.1 (fun _ h => .inl h))
    obtain ⟨z0, z1, z2⟩ := val_cells Z2.out
    have fz : ∀ o, w2.frozen? ⟨w.heap.size, o, none⟩ = false := fun o => frozen_of_row w2 _ o _ _ Z2.out
    have hl := lt_of_heap H.out
    go_wp2_with fail
    exact val_ret3 Val.null rfl rfl Z2.out (fun w' c => NOut.no HN.out (C2.out.trans c (fun k h => .inr (by unfold OneP at h; omega))) (FnAt.chg HC.out.2 c (by unfold OneP; omega)))
  | false =>
    have hne : ¬ b = 0 := by simpa using hq1
    cases q2 with
    | false =>
      have hne2 : ¬ b = -1 := by simpa using hq2
      clear hq3
      go_enter Tryz.func88, Tryz.ntmps88
      go_wp2_with fail
      exact val_ret (intV (a.tmod b)) rfl rfl (hal_new' (by simp)) (NOut.yes HN.out ((Chg.refl _ _).alloc _) (H2.out _))
    | true =>
      go_enter Tryz.func88, Tryz.ntmps88
      go_wp2_with fail
      exact val_ret (intV (0)) rfl rfl (hal_new' (by simp)) (NOut.yes HN.out ((Chg.refl _ _).alloc _) (H2.out _))
theorem arith_any (p : Nat) (k a b : Int) (rv : Value) (w : World) (h5 : 5 ≤ k) (h9 : k ≤ 9) (h : FnAt w p rv 0) : Calls Tryz.prog 88 #[.pointer (some ⟨p, 0, none⟩), .int .i64 k, .int .i64 a, .int .i64 b] w (NOut (numL2 k a b) p rv w) := by
  have : k = 5 ∨ k = 6 ∨ k = 7 ∨ k = 8 ∨ k = 9 := by omega
  rcases this with rfl | rfl | rfl | rfl | rfl
  · exact arith_add p a b rv w h
  · exact arith_sub p a b rv w h
  · exact arith_mul p a b rv w h
  · exact arith_div p a b rv w h
  · exact arith_mod p a b rv w h
end Go.Proofs.YtnbckfkdmkbopaaGreatDoor
