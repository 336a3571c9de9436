/-
  What Commit, Abort, Sees, Version and Concurrent of the book of transactions do. No condition beyond each lemma's own.
-/
import Derived.Test.YtkneldeemlngkaaMBookB
set_option autoImplicit false
namespace Go.Proofs.Ytkneldeemlngkaa
open Go Go.RowKit
attribute [local go_sem] field_ent0 field_ent1 field_ent2

def Bk.endR (B : Bk) (t : Int) : Int := if (B.get t).1 = 1 then 0 else 41
def Bk.endB (B : Bk) (t s : Int) : Bk := if (B.get t).1 = 1 then B.fin t s else B
theorem end_any (r : Nat) (F : Nat → Prop) (B : Bk) (w : World) (t s : Int) (h : BookAt w r F B) (hs : B.step < 9223372036854775807) :
    Calls Try.prog 24 #[.pointer (some ⟨r, 0, none⟩), .int .i64 t, .int .i64 s] w fun e w' => e = .returned (.int .i64 (B.endR t)) ∧ BookAt w' r F (B.endB t s) ∧ Chg F w w' := by
  unfold Bk.endR Bk.endB
  by_cases hm : (B.get t).1 = 1
  · rw [if_pos hm, if_pos hm]; exact end_ok r F B w t s h hm hs
  · rw [if_neg hm, if_neg hm]
    refine (end_no r F B w t s h hm).mono ?_
    rintro e w' ⟨rfl, rfl⟩
    exact ⟨rfl, h, Chg.refl _ _⟩
theorem commit_nil (t : Int) (w : World) : Calls Try.prog 9 #[.pointer none, .int .i64 t] w fun e w' => e = .returned (.int .i64 2) ∧ w = w' := by
  go_enter Try.func9, Try.ntmps9
  go_wp2_with (go_at_call 24; refine (end_nil _ _ _).mono ?_; rintro e w' ⟨rfl, rfl⟩)
  go_ret
  exact ⟨rfl, rfl⟩
theorem abort_nil (t : Int) (w : World) : Calls Try.prog 8 #[.pointer none, .int .i64 t] w fun e w' => e = .returned (.int .i64 2) ∧ w = w' := by
  go_enter Try.func8, Try.ntmps8
  go_wp2_with (go_at_call 24; refine (end_nil _ _ _).mono ?_; rintro e w' ⟨rfl, rfl⟩)
  go_ret
  exact ⟨rfl, rfl⟩
theorem commit_any (r : Nat) (F : Nat → Prop) (B : Bk) (w : World) (t : Int) (h : BookAt w r F B) (hs : B.step < 9223372036854775807) :
    Calls Try.prog 9 #[.pointer (some ⟨r, 0, none⟩), .int .i64 t] w fun e w' => e = .returned (.int .i64 (B.endR t)) ∧ BookAt w' r F (B.endB t 2) ∧ Chg F w w' := by
  have HH := Lib.hid h; have HS := Lib.hid hs
  clear h hs
  go_enter Try.func9, Try.ntmps9
  go_wp2_with fail
  refine (end_any r F B w t 2 HH.out HS.out).mono ?_
  rintro e w' ⟨rfl, h1, h2⟩
  have H1 := Lib.hid h1; have H2 := Lib.hid h2
  clear h1 h2
  go_wp2
  go_ret
  exact ⟨rfl, H1.out, H2.out⟩
theorem abort_any (r : Nat) (F : Nat → Prop) (B : Bk) (w : World) (t : Int) (h : BookAt w r F B) (hs : B.step < 9223372036854775807) :
    Calls Try.prog 8 #[.pointer (some ⟨r, 0, none⟩), .int .i64 t] w fun e w' => e = .returned (.int .i64 (B.endR t)) ∧ BookAt w' r F (B.endB t 3) ∧ Chg F w w' := by
  have HH := Lib.hid h; have HS := Lib.hid hs
  clear h hs
  go_enter Try.func8, Try.ntmps8
  go_wp2_with fail
  refine (end_any r F B w t 3 HH.out HS.out).mono ?_
  rintro e w' ⟨rfl, h1, h2⟩
  have H1 := Lib.hid h1; have H2 := Lib.hid h2
  clear h1 h2
  go_wp2
  go_ret
  exact ⟨rfl, H1.out, H2.out⟩
/-! what is seen -/
def Bk.sees (B : Bk) (t u : Int) : Bool :=
  if B.state t = 0 ∨ B.state u = 0 ∨ t < B.first then false else (t == u || ((B.get u).1 == 2 && decide ((B.get u).2.2 < (B.get t).2.1)))
theorem sees_nil (t u : Int) (w : World) : Calls Try.prog 11 #[.pointer none, .int .i64 t, .int .i64 u] w fun e w' => e = .returned (.bool false) ∧ w = w' := by
  go_enter Try.func11, Try.ntmps11
  go_wp2_with (go_at_call 25; refine (state_nil _ _).mono ?_; rintro e w' ⟨rfl, rfl⟩)
  go_ret
  exact ⟨rfl, rfl⟩
set_option maxRecDepth 100000 in
set_option maxHeartbeats 1000000 in
theorem sees_any (r : Nat) (F : Nat → Prop) (B : Bk) (w : World) (t u : Int) (h : BookAt w r F B) :
    Calls Try.prog 11 #[.pointer (some ⟨r, 0, none⟩), .int .i64 t, .int .i64 u] w fun e w' => e = .returned (.bool (B.sees t u)) ∧ Chg (fun _ => False) w w' := by
  have hst : ∀ x, B.sees t u = x → Hid (B.sees t u = x) := fun x h => Lib.hid h
  have HH := Lib.hid h
  clear h
  by_cases h1 : B.state t = 0
  · have HS := hst false (by unfold Bk.sees; rw [if_pos (.inl h1)])
    have H1 := Lib.hid h1
    rw [HS.out]
    clear HS hst h1
    go_enter Try.func11, Try.ntmps11
    go_wp2_with fail
    refine (state_any r F B w t HH.out).mono ?_
    rintro e w1 ⟨rfl, x1⟩
    rw [H1.out]
    have X1 := Lib.hid x1
    clear x1
    go_wp2
    go_ret
    exact ⟨rfl, X1.out⟩
  · have n1 : (B.state t == 0) = false := by simpa using h1
    have ST := Lib.hid (rfl : B.state t = B.state t)
    by_cases h2 : B.state u = 0
    · have HS := hst false (by unfold Bk.sees; rw [if_pos (.inr (.inl h2))])
      have H2 := Lib.hid h2
      rw [HS.out]
      clear HS hst h2 h1
      go_enter Try.func11, Try.ntmps11
      go_wp2_with fail
      refine (state_any r F B w t HH.out).mono ?_
      rintro e w1 ⟨rfl, x1⟩
      have X1 := Lib.hid x1
      clear x1
      go_wp2_with fail
      refine (state_any r F B w1 u (HH.out.quiet X1.out)).mono ?_
      rintro e w2 ⟨rfl, x2⟩
      rw [H2.out]
      have X2 := Lib.hid (X1.out.trans x2 (fun _ h => h.elim))
      clear x2
      go_wp2
      go_ret
      exact ⟨rfl, X2.out⟩
    · have n2 : (B.state u == 0) = false := by simpa using h2
      by_cases h3 : t < B.first
      · have HS := hst false (by unfold Bk.sees; rw [if_pos (.inr (.inr h3))])
        rw [HS.out]
        clear HS hst h2 h1
        go_enter Try.func11, Try.ntmps11
        go_wp2_with fail
        refine (state_any r F B w t HH.out).mono ?_
        rintro e w1 ⟨rfl, x1⟩
        have X1 := Lib.hid x1
        clear x1
        go_wp2_with fail
        refine (state_any r F B w1 u (HH.out.quiet X1.out)).mono ?_
        rintro e w2 ⟨rfl, x2⟩
        have X2 := Lib.hid (X1.out.trans x2 (fun _ h => h.elim))
        clear x2
        obtain ⟨mb, es, c, hb⟩ := HH.out.quiet X2.out
        have c4 := hb.cells.2.2.2.2.1
        clear hb
        go_wp2
        go_ret
        exact ⟨rfl, X2.out⟩
      · have HV := hst (t == u || ((B.get u).1 == 2 && decide ((B.get u).2.2 < (B.get t).2.1))) (by unfold Bk.sees; rw [if_neg (by rintro (h | h | h) <;> contradiction)])
        rw [HV.out]
        clear HV hst h2 h1
        go_enter Try.func11, Try.ntmps11
        go_wp2_with fail
        refine (state_any r F B w t HH.out).mono ?_
        rintro e w1 ⟨rfl, x1⟩
        have X1 := Lib.hid x1
        clear x1
        go_wp2_with fail
        refine (state_any r F B w1 u (HH.out.quiet X1.out)).mono ?_
        rintro e w2 ⟨rfl, x2⟩
        have X2 := Lib.hid (X1.out.trans x2 (fun _ h => h.elim))
        clear x2
        obtain ⟨mb, es, c, hb⟩ := HH.out.quiet X2.out
        obtain ⟨c0, c1, c2, c3, c4, c5⟩ := hb.cells
        have hl := hb.is.at_ u hb.map
        have LT := Lib.hid (fun (W : World) (hW : W.heap[mb]? = some (.map es c)) => hb.is.at_ t hW)
        rw [show (B.all u).getD (0, 0, 0) = B.get u from rfl] at hl
        rw [show (B.all t).getD (0, 0, 0) = B.get t from rfl] at LT
        have M2 := Lib.hid hb.map
        generalize hgu : B.get u = eu at *
        generalize hgt : B.get t = et at *
        obtain ⟨a0, a1, a2⟩ := eu
        obtain ⟨b0, b1, b2⟩ := et
        have HGU := Lib.hid hgu; have HGT := Lib.hid hgt
        clear hgu hgt
        simp only [entV] at hl LT
        clear hb
        go_wp2_with fail
        have ml := lt_of_heap M2.out
        have c3' : (w2.alloc (.cells #[.int .i64 a0, .int .i64 a1, .int .i64 a2] 59)).cell? ⟨r, 3, none⟩ = some (.map (some mb)) := (World.cell?_alloc_lt _ _ _ c5).trans c3
        have M3 := Lib.hid ((hal_old (o := .cells #[.int .i64 a0, .int .i64 a1, .int .i64 a2] 59) ml).trans M2.out)
        have b3 := hal_new (w := w2) (o := .cells #[.int .i64 a0, .int .i64 a1, .int .i64 a2] 59)
        have X3 := Lib.hid (X2.out.alloc (.cells #[.int .i64 a0, .int .i64 a1, .int .i64 a2] 59))
        generalize hW3 : w2.alloc (.cells #[.int .i64 a0, .int .i64 a1, .int .i64 a2] 59) = W3 at *
        have d0 := cell_of_row W3 w2.heap.size 0 _ _ _ b3
        have d2 := cell_of_row W3 w2.heap.size 2 _ _ _ b3
        have m3 := M3.out
        clear hW3 hl b3
        refine wp_region_lex (fun w' => w'.cell? ⟨w2.heap.size, 0, none⟩ = some (.int .i64 a0) ∧ w'.cell? ⟨w2.heap.size, 2, none⟩ = some (.int .i64 a2) ∧ w'.cell? ⟨r, 3, none⟩ = some (.map (some mb)) ∧ w'.heap[mb]? = some (.map es c)) 99 [] [0, 1, 2, 3, 4, 5, 6, 7, 8, 9, 10, 11, 12, 13, 14, 15, 16, 17, 18, 19, 20] (by kernel_rfl) (by kernel_rfl) ⟨d0, d2, c3', m3⟩ ?_
        clear m3 c0 c1 c2 c3 c4 c5 c3'
        iterate 4
          refine' lex_free (v := _) rfl rfl rfl ?_ (fun _ _ _ h => h) ?_
          rotate_left
          · rintro W ⟨hW1, hW2, hW4, _⟩
            go_simp
            with_reducible rfl
          try simp only [Act.put, List.setIfInBounds_toArray, List.set_cons_zero, List.set_cons_succ]
        by_cases htu : t = u
        · subst htu
          have qe : (t == t) = true := by simp
          rw [qe]
          iterate 15
            refine lex_skip rfl rfl rfl (fun _ _ _ h => h) ?_
            try simp only [Act.put, List.setIfInBounds_toArray, List.set_cons_zero, List.set_cons_succ]
          iterate 2
            refine' lex_free (v := _) rfl rfl rfl ?_ (fun _ _ _ h => h) ?_
            rotate_left
            · rintro W ⟨hW1, hW2, hW4, _⟩
              go_simp
              with_reducible rfl
            try simp only [Act.put, List.setIfInBounds_toArray, List.set_cons_zero, List.set_cons_succ]
          refine lex_nil ?_
          go_wp2
          go_ret
          exact ⟨by simp, X3.out.drew⟩
        · have qe : (t == u) = false := by simpa using htu
          rw [qe]
          iterate 4
            refine' lex_freeG (v := _) rfl rfl rfl ?_ (fun _ _ _ h => h) ?_
            rotate_left
            · rintro W ⟨hW1, hW2, hW4, _⟩
              go_simp
              with_reducible rfl
            try simp only [Act.put, List.setIfInBounds_toArray, List.set_cons_zero, List.set_cons_succ]
          by_cases ha : a0 = 2
          · subst ha
            iterate 7
              refine' lex_freeG (v := _) rfl rfl rfl ?_ (fun _ _ _ h => h) ?_
              rotate_left
              · rintro W ⟨hW1, hW2, hW4, _⟩
                go_simp
                with_reducible rfl
              try simp only [Act.put, List.setIfInBounds_toArray, List.set_cons_zero, List.set_cons_succ]
            refine lex_freeG (v := .agg #[.int .i64 b0, .int .i64 b1, .int .i64 b2]) rfl rfl rfl (fun W hW => exec_lookup rfl rfl rfl (LT.out W hW.2.2.2)) (fun _ _ _ h => h) ?_
            try simp only [Act.put, List.setIfInBounds_toArray, List.set_cons_zero, List.set_cons_succ]
            iterate 3
              refine' lex_freeG (v := _) rfl rfl rfl ?_ (fun _ _ _ h => h) ?_
              rotate_left
              · rintro W ⟨hW1, hW2, hW4, _⟩
                go_simp
                with_reducible rfl
              try simp only [Act.put, List.setIfInBounds_toArray, List.set_cons_zero, List.set_cons_succ]
            iterate 2
              refine' lex_free (v := _) rfl rfl rfl ?_ (fun _ _ _ h => h) ?_
              rotate_left
              · rintro W ⟨hW1, hW2, hW4, _⟩
                go_simp
                with_reducible rfl
              try simp only [Act.put, List.setIfInBounds_toArray, List.set_cons_zero, List.set_cons_succ]
            refine lex_nil ?_
            go_wp2
            go_ret
            exact ⟨by rw [HGU.out, HGT.out, qe]; simp, X3.out.drew⟩
          · have qa : (a0 == 2) = false := by simpa using ha
            rw [qa]
            iterate 10
              refine lex_skip rfl rfl rfl (fun _ _ _ h => h) ?_
              try simp only [Act.put, List.setIfInBounds_toArray, List.set_cons_zero, List.set_cons_succ]
            iterate 1
              refine' lex_freeG (v := _) rfl rfl rfl ?_ (fun _ _ _ h => h) ?_
              rotate_left
              · rintro W ⟨hW1, hW2, hW4, _⟩
                go_simp
                with_reducible rfl
              try simp only [Act.put, List.setIfInBounds_toArray, List.set_cons_zero, List.set_cons_succ]
            iterate 2
              refine' lex_free (v := _) rfl rfl rfl ?_ (fun _ _ _ h => h) ?_
              rotate_left
              · rintro W ⟨hW1, hW2, hW4, _⟩
                go_simp
                with_reducible rfl
              try simp only [Act.put, List.setIfInBounds_toArray, List.set_cons_zero, List.set_cons_succ]
            refine lex_nil ?_
            go_wp2
            go_ret
            exact ⟨by rw [HGU.out, HGT.out, qe, qa]; simp, X3.out.drew⟩
end Go.Proofs.Ytkneldeemlngkaa
