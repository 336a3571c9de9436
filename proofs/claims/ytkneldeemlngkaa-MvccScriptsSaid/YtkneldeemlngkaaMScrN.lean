/-
  MvccScripts: the walk where the number is too great, or New refuses. Conditions: the lists can be read.
-/
import Derived.Test.YtkneldeemlngkaaMScr
import Derived.Deep.CutBlock
import Derived.Deep.DeepCutAuto
set_option autoImplicit false
namespace Go.Proofs.Ytkneldeemlngkaa
open Go Go.RowKit

set_option maxRecDepth 100000 in
set_option maxHeartbeats 4000000 in
theorem mscripts_big (nx mo : Int) (ca : Option Addr) (cl cc : Nat) (ao : Option Addr) (len cap : Nat) (w : World) (hn : 100 < nx) :
    Calls Try.prog 4 #[.agg #[.int .i64 nx, .int .i64 mo, .slice ca cl cc], .slice ao len cap] w fun e w' => e = .returned (.bool true) ∧ Chg (fun _ => False) w w' := by
  go_enter Try.func4, Try.ntmps4
  go_wp2_with fail
  obtain ⟨WA, hWA⟩ : ∃ WA, WA = w.alloc (.cells #[.int .i64 nx, .int .i64 mo, .slice ca cl cc] 36) := ⟨_, rfl⟩
  rw [← hWA]
  have hxa : Chg (fun _ => False) w WA := by rw [hWA]; exact (Chg.refl _ _).alloc _
  have hca : WA.heap[w.heap.size]? = some (.cells #[.int .i64 nx, .int .i64 mo, .slice ca cl cc] 36 (0, 0)) := by rw [hWA]; exact hal_new
  have hza : WA.heap.size = w.heap.size + 1 := by rw [hWA]; simp
  have XA := Lib.hid hxa; have CA := Lib.hid hca; have HZA := Lib.hid hza
  clear hWA hxa hca hza
  refine (awake19 WA).mono ?_
  rintro e w1 ⟨rfl, x1⟩
  have hc1 := x1.heap CA.out (fun h => h)
  have d0 := cell_of_row w1 w.heap.size 0 _ _ _ hc1
  have d1 := cell_of_row w1 w.heap.size 1 _ _ _ hc1
  have d2 := cell_of_row w1 w.heap.size 2 _ _ _ hc1
  have C1 := Lib.hid hc1
  have X1 := Lib.hid (XA.out.trans x1 (fun _ h => h.elim))
  clear x1 hc1
  clear d1 d2
  go_wp2
  go_ret
  exact ⟨rfl, X1.out⟩
set_option maxRecDepth 100000 in
set_option maxHeartbeats 40000000 in
theorem mscripts_nil (nx mo : Int) (ca : Option Addr) (cl cc : Nat) (V : Nat → Int) (ao : Option Addr) (len cap : Nat) (K T U : Nat → Int) (w : World) (hlen : len ≤ 140737488355328) (hcl : cl ≤ 9223372036854775807)
    (hv : SlRd w ca cl 1 (fun i _ => .int .i64 (V i))) (hp : SlRd w ao len 3 (fun i j => if j = 0 then .int .i64 (K i) else if j = 1 then .int .i64 (T i) else .int .i64 (U i))) (hn : nx ≤ 100) (hno : ¬ NewOk nx mo V cl) (hmo : mo ≤ 9223372036854775807) :
    Calls Try.prog 4 #[.agg #[.int .i64 nx, .int .i64 mo, .slice ca cl cc], .slice ao len cap] w fun e w' => e = .returned (.bool true) ∧ Chg (fun _ => False) w w' := by
  have HV := Lib.hid hv; have HP := Lib.hid hp; have HNO := Lib.hid hno
  clear hv hp hno
  go_enter Try.func4, Try.ntmps4
  go_wp2_with fail
  obtain ⟨WA, hWA⟩ : ∃ WA, WA = w.alloc (.cells #[.int .i64 nx, .int .i64 mo, .slice ca cl cc] 36) := ⟨_, rfl⟩
  rw [← hWA]
  have hxa : Chg (fun _ => False) w WA := by rw [hWA]; exact (Chg.refl _ _).alloc _
  have hca : WA.heap[w.heap.size]? = some (.cells #[.int .i64 nx, .int .i64 mo, .slice ca cl cc] 36 (0, 0)) := by rw [hWA]; exact hal_new
  have hza : WA.heap.size = w.heap.size + 1 := by rw [hWA]; simp
  have XA := Lib.hid hxa; have CA := Lib.hid hca; have HZA := Lib.hid hza
  clear hWA hxa hca hza
  refine (awake19 WA).mono ?_
  rintro e w1 ⟨rfl, x1⟩
  have hc1 := x1.heap CA.out (fun h => h)
  have d0 := cell_of_row w1 w.heap.size 0 _ _ _ hc1
  have d1 := cell_of_row w1 w.heap.size 1 _ _ _ hc1
  have d2 := cell_of_row w1 w.heap.size 2 _ _ _ hc1
  have C1 := Lib.hid hc1
  have X1 := Lib.hid (XA.out.trans x1 (fun _ h => h.elim))
  clear x1 hc1
  go_wp2_with fail
  refine (new_bad nx mo ca cl cc V w1 hcl (HV.out.chg X1.out (fun _ _ h => h)) HNO.out hmo).mono ?_
  rintro e w2 ⟨rfl, x2⟩
  have hc2 := x2.heap C1.out (fun h => h)
  clear d0 d1 d2
  have d0 := cell_of_row w2 w.heap.size 0 _ _ _ hc2
  have d1 := cell_of_row w2 w.heap.size 1 _ _ _ hc2
  have d2 := cell_of_row w2 w.heap.size 2 _ _ _ hc2
  have C2 := Lib.hid hc2
  have XT := Lib.hid (X1.out.trans x2 (fun _ h => h.elim))
  clear x2 hc2
  go_wp2_with fail
  refine (rnew_any nx mo ca cl cc V w2 hcl (HV.out.chg XT.out (fun _ _ h => h))).mono ?_
  rintro e w3 (⟨hok, _⟩ | ⟨_, rfl, x3⟩)
  · exact absurd hok HNO.out
  · have hc3 := x3.heap C2.out (fun h => h)
    clear d0 d1 d2
    have d0 := cell_of_row w3 w.heap.size 0 _ _ _ hc3
    have d1 := cell_of_row w3 w.heap.size 1 _ _ _ hc3
    have X3 := Lib.hid (XT.out.trans x3 (fun _ h => h.elim))
    clear x3 hc3 XT
    go_wp2_with fail
    refine (alike_nil _ _ _).mono ?_
    rintro e w' ⟨rfl, rfl⟩
    go_wp2_with fail
    refine (commit_nil _ _).mono ?_
    rintro e w' ⟨rfl, rfl⟩
    clear d0 d1
    go_wp2
    go_loopg [6, 8, 10] len (fun g s6 s8 s10 wr => ∃ k : Nat, k + g = len ∧ s10 = .int .i64 k ∧ s6 = .pointer none ∧ s8 = .pointer none ∧ Chg (fun _ => False) w wr)
    case atStart => exact ⟨0, Nat.zero_add _, rfl, rfl, rfl, X3.out⟩
    case round =>
      obtain ⟨k, hk, rfl, rfl, rfl, hx⟩ := hrel
      obtain ⟨wq, h3⟩ : ∃ x, x = wr := ⟨_, rfl⟩
      subst h3
      have HX := Lib.hid hx
      clear hx
      by_cases hlt : k < len
      · obtain ⟨pb, off, rfl, hbl, hc⟩ := HP.out (by omega)
        have hc0 := (cell_of_heap (HX.out.keep pb hbl (fun h => h))).trans (hc k 0 hlt (by omega))
        have hc1 := (cell_of_heap (HX.out.keep pb hbl (fun h => h))).trans (hc k 1 hlt (by omega))
        have hc2 := (cell_of_heap (HX.out.keep pb hbl (fun h => h))).trans (hc k 2 hlt (by omega))
        simp only [if_true, if_false, Nat.add_zero, Nat.one_ne_zero, Nat.reduceEqDiff] at hc0 hc1 hc2
        clear hc
        generalize K k = Kk at *
        generalize T k = Tk at *
        generalize U k = Uk at *
        have OP := Lib.hid (hal_new (w := wq) (o := .cells #[.int .i64 Kk, .int .i64 Tk, .int .i64 Uk] 43))
        have XW := Lib.hid (HX.out.alloc (.cells #[.int .i64 Kk, .int .i64 Tk, .int .i64 Uk] 43))
        go_upto_block 2 with (fail)
        generalize wq.alloc (.cells #[.int .i64 Kk, .int .i64 Tk, .int .i64 Uk] 43) = W1 at *
        clear hc0 hc1 hc2
        go_cut [6, 7, 8, 9, 12, 13] (fun s6 s7 s8 s9 s12 s13 wx => ∃ e : Int, s6 = .pointer none ∧ s8 = .pointer none ∧ s7 = .int .i64 e ∧ s9 = .int .i64 e ∧ s12 = .int .i64 0 ∧ s13 = .int .i64 0 ∧ wx = W1)
        case first =>
          have oc1 := cell_of_row W1 wq.heap.size 1 _ _ _ OP.out
          by_cases h1 : Kk = 1
          · subst h1
            go_wp2_with fail
            refine (begin_nil _).mono ?_
            rintro e w6 ⟨rfl, rfl⟩
            go_wp2_with fail
            refine (rbegin_nil _).mono ?_
            rintro e w6 ⟨rfl, rfl⟩
            go_wp2
            go_meet
            exact ⟨2, rfl, rfl, rfl, rfl, rfl, rfl, rfl⟩
          · by_cases h2 : Kk = 2
            · subst h2
              go_wp2_with fail
              refine (commit_nil _ _).mono ?_
              rintro e w6 ⟨rfl, rfl⟩
              go_wp2_with fail
              refine (rend_nil _ _ _).mono ?_
              rintro e w6 ⟨rfl, rfl⟩
              go_wp2
              go_meet
              exact ⟨2, rfl, rfl, rfl, rfl, rfl, rfl, rfl⟩
            · by_cases h3 : Kk = 3
              · subst h3
                go_wp2_with fail
                refine (abort_nil _ _).mono ?_
                rintro e w6 ⟨rfl, rfl⟩
                go_wp2_with fail
                refine (rend_nil _ _ _).mono ?_
                rintro e w6 ⟨rfl, rfl⟩
                go_wp2
                go_meet
                exact ⟨2, rfl, rfl, rfl, rfl, rfl, rfl, rfl⟩
              · by_cases h4 : Kk = 4
                · subst h4
                  go_wp2
                  go_meet
                  exact ⟨0, rfl, rfl, rfl, rfl, rfl, rfl, rfl⟩
                · go_wp2
                  go_meet
                  exact ⟨0, rfl, rfl, rfl, rfl, rfl, rfl, rfl⟩
        case rest =>
          obtain ⟨e1, rfl, rfl, rfl, rfl, rfl, rfl, rfl⟩ := hcut
          go_upto_region 32 with (fail)
          go_cut [183] (fun s wx => s = .bool false ∧ Chg (fun _ => False) wc wx)
          case first =>
           as_aux_lemma =>
            have OP2 := OP
            have q1 := cell_of_row wc wq.heap.size 1 _ _ _ OP2.out
            have q2 := cell_of_row wc wq.heap.size 2 _ _ _ OP2.out
            go_wp2_with fail
            refine wp_region_lex (fun w' => w'.cell? ⟨wq.heap.size, 1, none⟩ = some (.int .i64 Tk) ∧ w'.cell? ⟨wq.heap.size, 2, none⟩ = some (.int .i64 Uk)) 99 [15, 20, 22, 23, 28, 30, 31, 39] [0, 1, 2, 3, 4, 5, 6, 7, 8, 9, 10, 11, 12, 13, 14, 15, 16, 17, 18, 19, 21, 20, 22, 23, 24, 25, 26, 27, 29, 28, 30, 31, 32, 33, 34, 35, 36, 37, 38, 40, 41, 42, 43, 44, 39, 45, 46, 47] (by kernel_rfl) (by kernel_rfl) ⟨q1, q2⟩ ?_
            clear q1 q2
            obtain ⟨W8, hW8⟩ : ∃ W8, W8 = wc.drew := ⟨_, rfl⟩
            have x8 : Chg (fun _ => False) wc W8 := by rw [hW8]; exact (Chg.refl _ _).drew
            have OP8 := Lib.hid (x8.heap OP2.out (fun h => h)); have X8 := Lib.hid x8
            rw [← hW8]
            clear hW8 x8
            iterate 4
              refine' lex_free (v := _) rfl rfl rfl ?_ (fun _ _ _ h => h) ?_
              rotate_left
              · rintro W ⟨hW1, hW2⟩
                go_simp
                with_reducible rfl
              try simp only [Act.put, List.setIfInBounds_toArray, List.set_cons_zero, List.set_cons_succ]
            iterate 3
              refine' lex_freeG (v := _) rfl rfl rfl ?_ (fun _ _ _ h => h) ?_
              rotate_left
              · rintro W ⟨hW1, hW2⟩
                go_simp
                with_reducible rfl
              try simp only [Act.put, List.setIfInBounds_toArray, List.set_cons_zero, List.set_cons_succ]
            iterate 2
              refine' lex_free (v := _) rfl rfl rfl ?_ (fun _ _ _ h => h) ?_
              rotate_left
              · rintro W ⟨hW1, hW2⟩
                go_simp
                with_reducible rfl
              try simp only [Act.put, List.setIfInBounds_toArray, List.set_cons_zero, List.set_cons_succ]
            iterate 6
              refine' lex_freeG (v := _) rfl rfl rfl ?_ (fun _ _ _ h => h) ?_
              rotate_left
              · rintro W ⟨hW1, hW2⟩
                go_simp
                with_reducible rfl
              try simp only [Act.put, List.setIfInBounds_toArray, List.set_cons_zero, List.set_cons_succ]
            refine lex_opG rfl rfl rfl (fun K hK => ?_)
            go_simp
            refine (alike_nil _ _ W8).mono ?_
            rintro e w9 ⟨rfl, rfl⟩
            refine hK _ _ (fun _ => ⟨cell_of_row W8 wq.heap.size 1 _ _ _ OP8.out, cell_of_row W8 wq.heap.size 2 _ _ _ OP8.out⟩) ?_
            clear hK K
            try simp only [Act.put, List.setIfInBounds_toArray, List.set_cons_zero, List.set_cons_succ]
            iterate 1
              refine' lex_freeG (v := _) rfl rfl rfl ?_ (fun _ _ _ h => h) ?_
              rotate_left
              · rintro W ⟨hW1, hW2⟩
                go_simp
                with_reducible rfl
              try simp only [Act.put, List.setIfInBounds_toArray, List.set_cons_zero, List.set_cons_succ]
            iterate 2
              refine' lex_free (v := _) rfl rfl rfl ?_ (fun _ _ _ h => h) ?_
              rotate_left
              · rintro W ⟨hW1, hW2⟩
                go_simp
                with_reducible rfl
              try simp only [Act.put, List.setIfInBounds_toArray, List.set_cons_zero, List.set_cons_succ]
            iterate 2
              refine' lex_freeG (v := _) rfl rfl rfl ?_ (fun _ _ _ h => h) ?_
              rotate_left
              · rintro W ⟨hW1, hW2⟩
                go_simp
                with_reducible rfl
              try simp only [Act.put, List.setIfInBounds_toArray, List.set_cons_zero, List.set_cons_succ]
            refine lex_opG rfl rfl rfl (fun K hK => ?_)
            go_simp
            refine (active_nil W8).mono ?_
            rintro e w9 ⟨rfl, rfl⟩
            refine hK _ _ (fun _ => ⟨cell_of_row W8 wq.heap.size 1 _ _ _ OP8.out, cell_of_row W8 wq.heap.size 2 _ _ _ OP8.out⟩) ?_
            clear hK K
            try simp only [Act.put, List.setIfInBounds_toArray, List.set_cons_zero, List.set_cons_succ]
            refine lex_opG rfl rfl rfl (fun K hK => ?_)
            go_simp
            refine (rlist_nil _ W8).mono ?_
            rintro e w9 ⟨rfl, rfl⟩
            refine hK _ _ (fun _ => ⟨cell_of_row W8 wq.heap.size 1 _ _ _ OP8.out, cell_of_row W8 wq.heap.size 2 _ _ _ OP8.out⟩) ?_
            clear hK K
            try simp only [Act.put, List.setIfInBounds_toArray, List.set_cons_zero, List.set_cons_succ]
            refine lex_opG rfl rfl rfl (fun K hK => ?_)
            go_simp
            refine (same_eq _ _ [] 0 0 W8 (Ints.nil _ _) (Ints.nil _ _)).mono ?_
            rintro e w12 ⟨rfl, x12⟩
            have OP12 := Lib.hid (x12.heap OP8.out (fun h => h)); have X12 := Lib.hid (X8.out.trans x12 (fun _ h => h.elim))
            clear x12
            refine hK _ _ (fun _ => ⟨cell_of_row w12 wq.heap.size 1 _ _ _ OP12.out, cell_of_row w12 wq.heap.size 2 _ _ _ OP12.out⟩) ?_
            clear hK K
            try simp only [Act.put, List.setIfInBounds_toArray, List.set_cons_zero, List.set_cons_succ]
            iterate 1
              refine' lex_freeG (v := _) rfl rfl rfl ?_ (fun _ _ _ h => h) ?_
              rotate_left
              · rintro W ⟨hW1, hW2⟩
                go_simp
                with_reducible rfl
              try simp only [Act.put, List.setIfInBounds_toArray, List.set_cons_zero, List.set_cons_succ]
            iterate 2
              refine' lex_free (v := _) rfl rfl rfl ?_ (fun _ _ _ h => h) ?_
              rotate_left
              · rintro W ⟨hW1, hW2⟩
                go_simp
                with_reducible rfl
              try simp only [Act.put, List.setIfInBounds_toArray, List.set_cons_zero, List.set_cons_succ]
            iterate 2
              refine' lex_freeG (v := _) rfl rfl rfl ?_ (fun _ _ _ h => h) ?_
              rotate_left
              · rintro W ⟨hW1, hW2⟩
                go_simp
                with_reducible rfl
              try simp only [Act.put, List.setIfInBounds_toArray, List.set_cons_zero, List.set_cons_succ]
            refine lex_opG rfl rfl rfl (fun K hK => ?_)
            go_simp
            refine (committed_nil w12).mono ?_
            rintro e w9 ⟨rfl, rfl⟩
            refine hK _ _ (fun _ => ⟨cell_of_row w12 wq.heap.size 1 _ _ _ OP12.out, cell_of_row w12 wq.heap.size 2 _ _ _ OP12.out⟩) ?_
            clear hK K
            try simp only [Act.put, List.setIfInBounds_toArray, List.set_cons_zero, List.set_cons_succ]
            refine lex_opG rfl rfl rfl (fun K hK => ?_)
            go_simp
            refine (rlist_nil _ w12).mono ?_
            rintro e w9 ⟨rfl, rfl⟩
            refine hK _ _ (fun _ => ⟨cell_of_row w12 wq.heap.size 1 _ _ _ OP12.out, cell_of_row w12 wq.heap.size 2 _ _ _ OP12.out⟩) ?_
            clear hK K
            try simp only [Act.put, List.setIfInBounds_toArray, List.set_cons_zero, List.set_cons_succ]
            refine lex_opG rfl rfl rfl (fun K hK => ?_)
            go_simp
            refine (same_eq _ _ [] 0 0 w12 (Ints.nil _ _) (Ints.nil _ _)).mono ?_
            rintro e w15 ⟨rfl, x15⟩
            have OP15 := Lib.hid (x15.heap OP12.out (fun h => h)); have X15 := Lib.hid (X12.out.trans x15 (fun _ h => h.elim))
            clear x15
            refine hK _ _ (fun _ => ⟨cell_of_row w15 wq.heap.size 1 _ _ _ OP15.out, cell_of_row w15 wq.heap.size 2 _ _ _ OP15.out⟩) ?_
            clear hK K
            try simp only [Act.put, List.setIfInBounds_toArray, List.set_cons_zero, List.set_cons_succ]
            iterate 1
              refine' lex_freeG (v := _) rfl rfl rfl ?_ (fun _ _ _ h => h) ?_
              rotate_left
              · rintro W ⟨hW1, hW2⟩
                go_simp
                with_reducible rfl
              try simp only [Act.put, List.setIfInBounds_toArray, List.set_cons_zero, List.set_cons_succ]
            iterate 2
              refine' lex_free (v := _) rfl rfl rfl ?_ (fun _ _ _ h => h) ?_
              rotate_left
              · rintro W ⟨hW1, hW2⟩
                go_simp
                with_reducible rfl
              try simp only [Act.put, List.setIfInBounds_toArray, List.set_cons_zero, List.set_cons_succ]
            iterate 3
              refine' lex_freeG (v := _) rfl rfl rfl ?_ (fun _ _ _ h => h) ?_
              rotate_left
              · rintro W ⟨hW1, hW2⟩
                go_simp
                with_reducible rfl
              try simp only [Act.put, List.setIfInBounds_toArray, List.set_cons_zero, List.set_cons_succ]
            iterate 6
              refine lex_skip rfl rfl rfl (fun _ _ _ h => h) ?_
              try simp only [Act.put, List.setIfInBounds_toArray, List.set_cons_zero, List.set_cons_succ]
            refine lex_skipE rfl rfl rfl ⟨cell_of_row w15 wq.heap.size 1 _ _ _ OP15.out, cell_of_row w15 wq.heap.size 2 _ _ _ OP15.out⟩ ?_
            try simp only [Act.put, List.setIfInBounds_toArray, List.set_cons_zero, List.set_cons_succ]
            iterate 1
              refine lex_skip rfl rfl rfl (fun _ _ _ h => h) ?_
              try simp only [Act.put, List.setIfInBounds_toArray, List.set_cons_zero, List.set_cons_succ]
            iterate 1
              refine' lex_freeG (v := _) rfl rfl rfl ?_ (fun _ _ _ h => h) ?_
              rotate_left
              · rintro W ⟨hW1, hW2⟩
                go_simp
                with_reducible rfl
              try simp only [Act.put, List.setIfInBounds_toArray, List.set_cons_zero, List.set_cons_succ]
            iterate 1
              refine' lex_free (v := _) rfl rfl rfl ?_ (fun _ _ _ h => h) ?_
              rotate_left
              · rintro W ⟨hW1, hW2⟩
                go_simp
                with_reducible rfl
              try simp only [Act.put, List.setIfInBounds_toArray, List.set_cons_zero, List.set_cons_succ]
            refine lex_nil ?_
            go_wp2
            go_meet
            exact ⟨rfl, X15.out⟩
          case rest =>
            obtain ⟨rfl, hx⟩ := hcut
            have X5 := Lib.hid (XW.out.trans hx (fun _ h => h.elim))
            clear hx
            go_wp2
            go_roundg (gk - 1)
            case measure => omega
            case rel => exact ⟨k + 1, by omega, by go_num, rfl, rfl, X5.out⟩
      · obtain rfl : k = len := by omega
        go_wp2
        go_loopw [14] (fun s14 wr => s14 = .int .i64 (-1) ∧ wr = wq) (fun _ _ => 0)
        case atStart => exact ⟨rfl, rfl⟩
        case round =>
          obtain ⟨rfl, rfl⟩ := hrel
          go_wp2
          go_ret
          exact ⟨rfl, HX.out⟩
end Go.Proofs.Ytkneldeemlngkaa
