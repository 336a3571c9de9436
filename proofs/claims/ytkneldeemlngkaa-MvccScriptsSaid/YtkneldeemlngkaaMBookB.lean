/-
  What Begin, end, Commit, Abort, Next and Sees of the book of transactions do. No condition beyond each lemma's own.
-/
import Derived.Test.YtkneldeemlngkaaMBook
set_option autoImplicit false
namespace Go.Proofs.Ytkneldeemlngkaa
open Go Go.RowKit

theorem field_ent0 (a b c : Int) (w : World) : (Instr.field 59 (.agg #[.int .i64 a, .int .i64 b, .int .i64 c]) 0).run Try.prog w = .ok (.int .i64 a) w := by kernel_rfl
theorem field_ent1 (a b c : Int) (w : World) : (Instr.field 59 (.agg #[.int .i64 a, .int .i64 b, .int .i64 c]) 1).run Try.prog w = .ok (.int .i64 b) w := by kernel_rfl
theorem field_ent2 (a b c : Int) (w : World) : (Instr.field 59 (.agg #[.int .i64 a, .int .i64 b, .int .i64 c]) 2).run Try.prog w = .ok (.int .i64 c) w := by kernel_rfl
attribute [local go_sem] field_ent0 field_ent1 field_ent2
theorem next_nil (w : World) : Calls Try.prog 16 #[.pointer none] w fun e w' => e = .returned (.int .i64 0) ∧ w = w' := by
  go_enter Try.func16, Try.ntmps16
  go_wp2
  go_ret
  exact ⟨rfl, rfl⟩
theorem next_any (r : Nat) (F : Nat → Prop) (B : Bk) (w : World) (h : BookAt w r F B) : Calls Try.prog 16 #[.pointer (some ⟨r, 0, none⟩)] w fun e w' => e = .returned (.int .i64 B.next) ∧ w = w' := by
  obtain ⟨mb, es, c, h⟩ := h
  obtain ⟨c0, c1, c2, c3, c4, c5⟩ := h.cells
  clear h
  go_enter Try.func16, Try.ntmps16
  go_wp2
  go_ret
  exact ⟨rfl, rfl⟩
theorem begin_nil (w : World) : Calls Try.prog 7 #[.pointer none] w fun e w' => e = .returned (.tuple #[.int .i64 0, .int .i64 2]) ∧ w = w' := by
  go_enter Try.func7, Try.ntmps7
  go_wp2
  go_ret2
  exact ⟨rfl, rfl⟩
def Bk.begin (B : Bk) : Bk := { B with next := B.next + 1, step := B.step + 1, all := eupd B.all B.next (1, B.step + 1, 0) }
theorem begin_full (r : Nat) (F : Nat → Prop) (B : Bk) (w : World) (h : BookAt w r F B) (hm : B.most < B.next) :
    Calls Try.prog 7 #[.pointer (some ⟨r, 0, none⟩)] w fun e w' => e = .returned (.tuple #[.int .i64 0, .int .i64 23]) ∧ Chg (fun _ => False) w w' := by
  obtain ⟨mb, es, c, h⟩ := h
  obtain ⟨c0, c1, c2, c3, c4, c5⟩ := h.cells
  clear h
  generalize B.next = nx at *
  generalize B.most = mo at *
  go_enter Try.func7, Try.ntmps7
  go_wp2
  go_quiet (fail)
  go_wp2
  go_ret2
  exact ⟨rfl, (Chg.refl _ _).drewN _⟩
theorem upd_dom {f : Int → Option Ent} {n : Int} {x : Ent} {a b : Int} (h : ∀ k e, f k = some e → 1 ≤ k ∧ k < a) (hn : 1 ≤ n) (hb : n < b) (hab : a ≤ b) : ∀ k e, eupd f n x k = some e → 1 ≤ k ∧ k < b := by
  intro k e hk
  unfold eupd at hk
  split at hk
  · omega
  · have := h k e hk; omega
set_option maxRecDepth 100000 in
theorem begin_ok (r : Nat) (F : Nat → Prop) (B : Bk) (w : World) (h : BookAt w r F B) (hm : B.next ≤ B.most) (hs : B.step < 9223372036854775807) :
    Calls Try.prog 7 #[.pointer (some ⟨r, 0, none⟩)] w fun e w' => e = .returned (.tuple #[.int .i64 B.next, .int .i64 0]) ∧ BookAt w' r F B.begin ∧ Chg F w w' := by
  obtain ⟨mb, es, c, h⟩ := h
  obtain ⟨c0, c1, c2, c3, c4, c5⟩ := h.cells
  have hfr := h.free
  have f0 := h.free 0
  have f2 := h.free 2
  have hok := h.ok
  have h1 := hok.n1
  have h2 := hok.m1
  have h3 := hok.s0
  have HH := Lib.hid h
  have hx1 : w.heap[r]? = some (.cells #[.int .i64 B.next, .int .i64 B.most, .int .i64 B.step, .map (some mb), .int .i64 B.first] 57 (0, 0)) := h.self
  clear h hfr hok
  obtain ⟨w1, hw1⟩ : ∃ w1, w1 = ((w.setCell ⟨r, 0, none⟩ (.int .i64 (B.next + 1))).setCell ⟨r, 2, none⟩ (.int .i64 (B.step + 1))).drew := ⟨_, rfl⟩
  have HW := Lib.hid hw1
  have s1 : w1.heap[r]? = some (.cells #[.int .i64 (B.next + 1), .int .i64 B.most, .int .i64 (B.step + 1), .map (some mb), .int .i64 B.first] 57 (0, 0)) := by
    rw [hw1]; show ((w.setCell _ _).setCell _ _).heap[r]? = _; rw [hset_eq (hset_eq hx1)]; rfl
  have m1 : w1.heap[mb]? = some (.map es c) := by
    rw [hw1]; show ((w.setCell _ _).setCell _ _).heap[mb]? = _; rw [hset_ne HH.out.ne, hset_ne HH.out.ne]; exact HH.out.map
  have x1 : Chg F w w1 := by
    rw [hw1]
    exact (((Chg.refl F w).setCell (p := ⟨r, 0, none⟩) (.inl HH.out.fr) _).setCell (p := ⟨r, 2, none⟩) (.inl HH.out.fr) _).drew
  have d3 := cell_of_row w1 r 3 _ _ _ s1
  have d2 := cell_of_row w1 r 2 _ _ _ s1
  have hmu := run_mapUpdate (P := Try.prog) w1.drew (t := 55) (kt := 3) (et := 59) (d := .int .i64) (k := .int .i64 B.next) (v := entV (1, B.step + 1, 0)) Try.underlying55 Try.underlying3 (by rfl) m1 HH.out.is.keys
  have S1 := Lib.hid s1; have M1 := Lib.hid m1; have X1 := Lib.hid x1; have HMU := Lib.hid hmu
  clear s1 m1 x1 hmu hw1 hx1
  have HNX := Lib.hid (show B.next + 1 = B.begin.next from rfl)
  go_enter Try.func7, Try.ntmps7
  go_wp2
  refine wp_region_lex (fun w' => w'.cell? ⟨r, 0, none⟩ = some (.int .i64 B.next) ∧ w'.cell? ⟨r, 1, none⟩ = some (.int .i64 B.most)) 99 [] [0, 1, 2, 3, 4, 5, 6, 7, 8, 9] (by kernel_rfl) (by kernel_rfl) ⟨c0, c1⟩ ?_
  iterate 10
    refine' lex_free (v := _) rfl rfl rfl ?_ (fun _ _ _ h => h) ?_
    rotate_left
    · rintro W ⟨hW1, hW2⟩
      go_simp
      with_reducible rfl
    try simp only [Act.put, List.setIfInBounds_toArray, List.set_cons_zero, List.set_cons_succ]
  refine lex_nil ?_
  go_wp2_with fail
  rw [← HW.out]
  clear c0 c1 c2 c3 c4 f0 f2
  refine wp_region_lex (fun w' => w'.cell? ⟨r, 2, none⟩ = some (.int .i64 (B.step + 1)) ∧ w'.cell? ⟨r, 3, none⟩ = some (.map (some mb))) 10 [10] [0, 1, 2, 3, 4, 5, 6, 7, 8, 9, 10] (by kernel_rfl) (by kernel_rfl) ⟨d2, d3⟩ ?_
  iterate 10
    refine' lex_free (v := _) rfl rfl rfl ?_ (fun _ _ _ h => h) ?_
    rotate_left
    · rintro W ⟨hW1, hW2⟩
      go_simp
      with_reducible rfl
    try simp only [Act.put, List.setIfInBounds_toArray, List.set_cons_zero, List.set_cons_succ]
  have hmu := HMU.out
  unfold entV at hmu
  refine lex_op rfl rfl rfl (fun K hK => ?_)
  go_simp
  refine hK _ _ (fun h => absurd rfl h) ?_
  clear hK K hmu
  refine lex_nil ?_
  go_wp2
  go_ret2
  have hh := HH.out
  refine ⟨rfl, ⟨mb, _, _, ?_, hobj_eq (lt_of_heap (w := w1) M1.out), hh.is.put B.next (1, B.step + 1, 0), hh.fr, hh.fm, ?_⟩, X1.out.drew.setObj (.inl hh.fm) _⟩
  · rw [hobj_ne hh.ne.symm]; exact S1.out
  · exact ⟨by show 1 ≤ B.next + 1; omega, by show B.next + 1 ≤ B.most + 1; omega, hh.ok.m1, by show 0 ≤ B.step + 1; omega, hh.ok.f1, by have := hh.ok.f2; show B.first ≤ B.next + 1; omega, upd_dom hh.ok.dom hh.ok.n1 (by show B.next < B.next + 1; omega) (by show B.next ≤ B.next + 1; omega)⟩
/-! the end of a transaction -/
theorem end_nil (t s : Int) (w : World) : Calls Try.prog 24 #[.pointer none, .int .i64 t, .int .i64 s] w fun e w' => e = .returned (.int .i64 2) ∧ w = w' := by
  go_enter Try.func24, Try.ntmps24
  go_wp2
  go_ret
  exact ⟨rfl, rfl⟩
def Bk.fin (B : Bk) (t s : Int) : Bk := { B with step := B.step + 1, all := eupd B.all t (s, (B.get t).2.1, B.step + 1) }
theorem end_no (r : Nat) (F : Nat → Prop) (B : Bk) (w : World) (t s : Int) (h : BookAt w r F B) (hm : (B.get t).1 ≠ 1) :
    Calls Try.prog 24 #[.pointer (some ⟨r, 0, none⟩), .int .i64 t, .int .i64 s] w fun e w' => e = .returned (.int .i64 41) ∧ w = w' := by
  obtain ⟨mb, es, c, h⟩ := h
  obtain ⟨c0, c1, c2, c3, c4, c5⟩ := h.cells
  have hl := h.is.at_ t h.map
  rw [show (B.all t).getD (0, 0, 0) = B.get t from rfl] at hl
  generalize B.get t = e at *
  obtain ⟨e0, e1, e2⟩ := e
  simp only [entV] at hl hm
  have hq : (e0 != 1) = true := by simpa using hm
  clear h hm
  go_enter Try.func24, Try.ntmps24
  go_wp2
  go_ret
  exact ⟨rfl, rfl⟩
theorem get_dom {B : Bk} (h : B.ok) {t : Int} (ht : (B.get t).1 ≠ 0) : 1 ≤ t ∧ t < B.next := by
  unfold Bk.get at ht
  cases hb : B.all t with
  | none => rw [hb] at ht; exact absurd rfl ht
  | some e => exact h.dom t e hb
set_option maxRecDepth 100000 in
theorem end_ok (r : Nat) (F : Nat → Prop) (B : Bk) (w : World) (t s : Int) (h : BookAt w r F B) (hm : (B.get t).1 = 1) (hs : B.step < 9223372036854775807) :
    Calls Try.prog 24 #[.pointer (some ⟨r, 0, none⟩), .int .i64 t, .int .i64 s] w fun e w' => e = .returned (.int .i64 0) ∧ BookAt w' r F (B.fin t s) ∧ Chg F w w' := by
  obtain ⟨mb, es, c, h⟩ := h
  obtain ⟨c0, c1, c2, c3, c4, c5⟩ := h.cells
  have f2 := h.free 2
  have h3 := h.ok.s0
  have hdom := get_dom h.ok (t := t) (by rw [hm]; decide)
  have HD := Lib.hid hdom
  clear hdom
  have HH := Lib.hid h
  have hx1 : w.heap[r]? = some (.cells #[.int .i64 B.next, .int .i64 B.most, .int .i64 B.step, .map (some mb), .int .i64 B.first] 57 (0, 0)) := h.self
  have hl := h.is.at_ t h.map
  rw [show (B.all t).getD (0, 0, 0) = B.get t from rfl] at hl
  obtain ⟨w1, hw1⟩ : ∃ w1, w1 = w.setCell ⟨r, 2, none⟩ (.int .i64 (B.step + 1)) := ⟨_, rfl⟩
  have HW := Lib.hid hw1
  have s1 : w1.heap[r]? = some (.cells #[.int .i64 B.next, .int .i64 B.most, .int .i64 (B.step + 1), .map (some mb), .int .i64 B.first] 57 (0, 0)) := by
    rw [hw1, hset_eq hx1]; rfl
  have m1 : w1.heap[mb]? = some (.map es c) := by
    rw [hw1, hset_ne HH.out.ne]; exact HH.out.map
  have x1 : Chg F w w1 := by
    rw [hw1]
    exact (Chg.refl F w).setCell (p := ⟨r, 2, none⟩) (.inl HH.out.fr) _
  have d3 := cell_of_row w1 r 3 _ _ _ s1
  have d2 := cell_of_row w1 r 2 _ _ _ s1
  have LK := Lib.hid (fun (W : World) (hW : W.heap[mb]? = some (.map es c)) => h.is.at_ t hW)
  rw [show (B.all t).getD (0, 0, 0) = B.get t from rfl] at LK
  obtain ⟨EV, hEV⟩ : ∃ EV, EV = (s, (B.get t).2.1, B.step + 1) := ⟨_, rfl⟩
  have hmu := run_mapUpdate (P := Try.prog) w1.drew (t := 55) (kt := 3) (et := 59) (d := .int .i64) (k := .int .i64 t) (v := entV EV) Try.underlying55 Try.underlying3 (by rfl) m1 HH.out.is.keys
  have HP := Lib.hid (HH.out.is.put t EV)
  have HF := Lib.hid (show B.fin t s = { B with step := B.step + 1, all := eupd B.all t EV } by rw [hEV]; rfl)
  generalize B.get t = e at *
  obtain ⟨e0, e1, e2⟩ := e
  subst hEV
  simp only at hm
  subst hm
  simp only [entV] at hl hmu LK
  have S1 := Lib.hid s1; have M1 := Lib.hid m1; have X1 := Lib.hid x1; have HMU := Lib.hid hmu
  clear s1 x1 hmu hw1 hx1 h
  rw [HF.out]
  clear HF
  go_enter Try.func24, Try.ntmps24
  go_wp2_with fail
  rw [← HW.out]
  clear c0 c1 c2 c3 c4 f2 hl
  refine wp_region_lex (fun w' => w'.cell? ⟨r, 2, none⟩ = some (.int .i64 (B.step + 1)) ∧ w'.cell? ⟨r, 3, none⟩ = some (.map (some mb)) ∧ w'.heap[mb]? = some (.map es c)) 18 [18] [0, 1, 2, 3, 4, 5, 6, 7, 8, 9, 10, 11, 12, 13, 14, 15, 16, 17, 18] (by kernel_rfl) (by kernel_rfl) ⟨d2, d3, m1⟩ ?_
  clear m1
  iterate 11
    refine' lex_free (v := _) rfl rfl rfl ?_ (fun _ _ _ h => h) ?_
    rotate_left
    · rintro W ⟨hW1, hW2, _⟩
      go_simp
      with_reducible rfl
    try simp only [Act.put, List.setIfInBounds_toArray, List.set_cons_zero, List.set_cons_succ]
  refine lex_free (v := .agg #[.int .i64 1, .int .i64 e1, .int .i64 e2]) rfl rfl rfl (fun W hW => exec_lookup rfl rfl rfl (LK.out W hW.2.2)) (fun _ _ _ h => h) ?_
  try simp only [Act.put, List.setIfInBounds_toArray, List.set_cons_zero, List.set_cons_succ]
  iterate 6
    refine' lex_free (v := _) rfl rfl rfl ?_ (fun _ _ _ h => h) ?_
    rotate_left
    · rintro W ⟨hW1, hW2, _⟩
      go_simp
      with_reducible rfl
    try simp only [Act.put, List.setIfInBounds_toArray, List.set_cons_zero, List.set_cons_succ]
  have hmu := HMU.out
  refine lex_op rfl rfl rfl (fun K hK => ?_)
  go_simp
  refine hK _ _ (fun h => absurd rfl h) ?_
  clear hK K hmu
  refine lex_nil ?_
  go_wp2
  go_ret
  have hh := HH.out
  refine ⟨rfl, ⟨mb, _, _, ?_, hobj_eq (lt_of_heap (w := w1) M1.out), HP.out, hh.fr, hh.fm, ?_⟩, X1.out.drew.setObj (.inl hh.fm) _⟩
  · rw [hobj_ne hh.ne.symm]; exact S1.out
  · exact ⟨hh.ok.n1, hh.ok.n2, hh.ok.m1, by show 0 ≤ B.step + 1; omega, hh.ok.f1, hh.ok.f2, upd_dom hh.ok.dom HD.out.1 HD.out.2 (Int.le_refl _)⟩
end Go.Proofs.Ytkneldeemlngkaa
