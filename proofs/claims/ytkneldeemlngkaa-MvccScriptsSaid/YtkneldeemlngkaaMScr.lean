/-
  MvccScripts: the walk where New takes what it is handed. Conditions: the lists can be read.
-/
import Derived.Test.YtkneldeemlngkaaMPair
import Derived.Deep.CutBlock
import Derived.Deep.DeepCutAuto
set_option autoImplicit false
namespace Go.Proofs.Ytkneldeemlngkaa
open Go Go.RowKit

theorem ints_sl {w : World} {lo n cap : Nat} {ao : Option Addr} {xs : List Int} (h : Ints w lo (.slice ao n cap) xs) : n = xs.length ∧ SlRd w ao xs.length 1 (fun i _ => .int .i64 (xs.getD i 0)) := by
  obtain ⟨ao', cap', he, hf⟩ := h.form
  injection he with e1 e2 e3
  subst e1
  refine ⟨e2, fun hp => ?_⟩
  obtain ⟨g, rfl, hg, hc⟩ := hf hp
  refine ⟨g, 0, rfl, h.lt (g := g) rfl, fun i j hi hj => ?_⟩
  obtain rfl : j = 0 := by omega
  have := hc i hi
  rw [Nat.zero_add, Nat.mul_one, Nat.add_zero, this]
  congr 2
  rw [List.getD_eq_getElem?_getD, List.getElem?_eq_getElem hi]
  rfl
set_option maxRecDepth 100000 in
set_option maxHeartbeats 40000000 in
theorem mscripts_ok (nx mo : Int) (ca : Option Addr) (cl cc : Nat) (V : Nat → Int) (ao : Option Addr) (len cap : Nat) (K T U : Nat → Int) (w : World) (hlen : len ≤ 140737488355328) (hcl : cl ≤ 9223372036854775807)
    (hv : SlRd w ca cl 1 (fun i _ => .int .i64 (V i))) (hp : SlRd w ao len 3 (fun i j => if j = 0 then .int .i64 (K i) else if j = 1 then .int .i64 (T i) else .int .i64 (U i))) (hn : nx ≤ 100) (hok : NewOk nx mo V cl) :
    Calls Try.prog 4 #[.agg #[.int .i64 nx, .int .i64 mo, .slice ca cl cc], .slice ao len cap] w fun e w' => e = .returned (.bool true) ∧ Chg (fun _ => False) w w' := by
  have HV := Lib.hid hv; have HP := Lib.hid hp; have HOK := Lib.hid hok
  clear hv hp hok
  go_enter Try.func4, Try.ntmps4
  go_wp2_with fail
  obtain ⟨WA, hWA⟩ : ∃ WA, WA = w.alloc (.cells #[.int .i64 nx, .int .i64 mo, .slice ca cl cc] 36) := ⟨_, rfl⟩
  rw [← hWA]
  have hxa : Chg (fun _ => False) w WA := by rw [hWA]; exact (Chg.refl _ _).alloc _
  have hca : WA.heap[w.heap.size]? = some (.cells #[.int .i64 nx, .int .i64 mo, .slice ca cl cc] 36 (0, 0)) := by rw [hWA]; exact hal_new
  have hza : WA.heap.size = w.heap.size + 1 := by rw [hWA]; simp
  have XA := Lib.hid hxa; have CA := Lib.hid hca; have HZA := Lib.hid hza
  clear hWA hxa hca hza
  refine (awake19 WA).mono ?_
  rintro e w1 ⟨rfl, x1⟩
  have hc1 := x1.heap CA.out (fun h => h)
  have d0 := cell_of_row w1 w.heap.size 0 _ _ _ hc1
  have d1 := cell_of_row w1 w.heap.size 1 _ _ _ hc1
  have d2 := cell_of_row w1 w.heap.size 2 _ _ _ hc1
  have C1 := Lib.hid hc1
  have X1 := Lib.hid (XA.out.trans x1 (fun _ h => h.elim))
  clear x1 hc1
  go_wp2_with fail
  refine (new_ok nx mo ca cl cc V w1 hcl (HV.out.chg X1.out (fun _ _ h => h)) HOK.out).mono ?_
  rintro e w2 ⟨b, rfl, hb2, x2⟩
  have hc2 := x2.heap C1.out (fun h => h)
  clear d0 d1 d2
  have d0 := cell_of_row w2 w.heap.size 0 _ _ _ hc2
  have d1 := cell_of_row w2 w.heap.size 1 _ _ _ hc2
  have d2 := cell_of_row w2 w.heap.size 2 _ _ _ hc2
  have X2 := Lib.hid x2; have B2 := Lib.hid hb2; have C2 := Lib.hid hc2
  have XT := Lib.hid (X1.out.trans x2 (fun _ h => h.elim))
  clear x2 hb2 hc2
  go_wp2_with fail
  refine (rnew_any nx mo ca cl cc V w2 hcl (HV.out.chg XT.out (fun _ _ h => h))).mono ?_
  rintro e w3 (⟨_, r, rfl, hr3, x3⟩ | ⟨hno, _⟩)
  · have hc3 := x3.heap C2.out (fun h => h)
    clear d0 d1 d2
    have d0 := cell_of_row w3 w.heap.size 0 _ _ _ hc3
    have d1 := cell_of_row w3 w.heap.size 1 _ _ _ hc3
    have S3 := Lib.hid (Sb.start (w0 := w) B2.out X2.out hr3 x3 X1.out.size X1.out)
    have R3 := Lib.hid (Rel.start HOK.out)
    have C3 := Lib.hid hc3
    have hlt1 : w.heap.size < w1.heap.size := lt_of_heap C1.out
    have HLT := Lib.hid hlt1
    clear x3 hr3 hc3 hlt1 B2 X2 XT
    go_wp2_with fail
    refine (alike_nil _ _ _).mono ?_
    rintro e w' ⟨rfl, rfl⟩
    go_wp2_with fail
    refine (commit_nil _ _).mono ?_
    rintro e w' ⟨rfl, rfl⟩
    clear d0 d1
    have hb0 : (Bk.start nx mo V cl).step = 0 ∧ (Bk.start nx mo V cl).most = mo := ⟨rfl, rfl⟩
    have HB0 := Lib.hid hb0
    clear hb0
    generalize Bk.start nx mo V cl = B0 at *
    generalize RBk.start nx mo V cl = R0 at *
    go_wp2
    go_loopg [6, 8, 10] len (fun g s6 s8 s10 wr => ∃ (k : Nat) (B : Bk) (R : RBk) (Z Y : Nat → Prop) (b r : Nat) (W : World), k + g = len ∧ s10 = .int .i64 k ∧ s6 = .pointer (some ⟨b, 0, none⟩) ∧ s8 = .pointer (some ⟨r, 0, none⟩) ∧ Sb w W (fun q => q < w1.heap.size) Z Y wr b r B R ∧ Rel B R ∧ B.step ≤ k ∧ B.most = mo ∧ wr.heap[w.heap.size]? = some (.cells #[.int .i64 nx, .int .i64 mo, .slice ca cl cc] 36 (0, 0)))
    case atStart => exact ⟨0, B0, R0, _, _, b, r, _, Nat.zero_add _, rfl, rfl, rfl, S3.out, R3.out, by rw [HB0.out.1]; exact Int.le_refl _, HB0.out.2, C3.out⟩
    case round =>
      clear S3 R3 C3 HB0
      obtain ⟨k, B, R, Z, Y, b, r, W0, hk, rfl, rfl, rfl, hsb, hrel2, hst, hmo, hcs⟩ := hrel
      obtain ⟨wq, h3⟩ : ∃ x, x = wr := ⟨_, rfl⟩
      subst h3
      have S0 := Lib.hid hsb; have R0 := Lib.hid hrel2; have ST0 := Lib.hid hst; have MO0 := Lib.hid hmo; have CS0 := Lib.hid hcs
      clear hsb hrel2 hst hmo hcs
      by_cases hlt : k < len
      · obtain ⟨pb, off, rfl, hbl, hc⟩ := HP.out (by omega)
        have hc0 := (cell_of_heap (S0.out.all.keep pb hbl (fun h => h))).trans (hc k 0 hlt (by omega))
        have hc1 := (cell_of_heap (S0.out.all.keep pb hbl (fun h => h))).trans (hc k 1 hlt (by omega))
        have hc2 := (cell_of_heap (S0.out.all.keep pb hbl (fun h => h))).trans (hc k 2 hlt (by omega))
        simp only [if_true, if_false, Nat.add_zero, Nat.one_ne_zero, Nat.reduceEqDiff] at hc0 hc1 hc2
        clear hc
        generalize K k = Kk at *
        generalize T k = Tk at *
        generalize U k = Uk at *
        have S1 := Lib.hid (S0.out.fresh (P' := fun q => q < w1.heap.size ∨ q = wq.heap.size) ((Chg.refl (fun _ => False) wq).alloc (.cells #[.int .i64 Kk, .int .i64 Tk, .int .i64 Uk] 43)) (fun _ h => .inl h) (fun q hq => hq.imp id (fun h => ⟨Nat.le_of_eq h.symm, by subst h; simp⟩)))
        have OP := Lib.hid (hal_new (w := wq) (o := .cells #[.int .i64 Kk, .int .i64 Tk, .int .i64 Uk] 43))
        have CS1 := Lib.hid (((Chg.refl (fun _ => False) wq).alloc (.cells #[.int .i64 Kk, .int .i64 Tk, .int .i64 Uk] 43)).heap CS0.out (fun h => h))
        go_upto_block 2 with (fail)
        generalize wq.alloc (.cells #[.int .i64 Kk, .int .i64 Tk, .int .i64 Uk] 43) = W1 at *
        have OC1 := Lib.hid (cell_of_row W1 wq.heap.size 1 _ _ _ OP.out)
        clear hc0 hc1 hc2 S0 CS0
        go_cut [6, 7, 8, 9, 12, 13] (fun s6 s7 s8 s9 s12 s13 wx => ∃ (e x : Int) (B1 : Bk) (R1 : RBk) (Z1 Y1 : Nat → Prop) (b1 r1 : Nat) (W : World), s6 = .pointer (some ⟨b1, 0, none⟩) ∧ s8 = .pointer (some ⟨r1, 0, none⟩) ∧ s7 = .int .i64 e ∧ s9 = .int .i64 e ∧ s12 = .int .i64 x ∧ s13 = .int .i64 x ∧ Sb w W (fun q => q < w1.heap.size ∨ q = wq.heap.size) Z1 Y1 wx b1 r1 B1 R1 ∧ Rel B1 R1 ∧ B1.step ≤ k + 1 ∧ B1.most = mo ∧ wx.heap[w.heap.size]? = some (.cells #[.int .i64 nx, .int .i64 mo, .slice ca cl cc] 36 (0, 0)) ∧ wx.heap[wq.heap.size]? = some (.cells #[.int .i64 Kk, .int .i64 Tk, .int .i64 Uk] 43 (0, 0)))
        case first =>
          have hs1 : B.step < 9223372036854775807 := by have := ST0.out; omega
          by_cases h1 : Kk = 1
          · as_aux_lemma =>
            subst h1
            by_cases hm : B.most < B.next
            · go_wp2_with fail
              refine (begin_full b Z B W1 S1.out.bk hm).mono ?_
              rintro e w6 ⟨rfl, x6⟩
              have S6 := Lib.hid (S1.out.quiet x6)
              have CS6 := Lib.hid (x6.heap CS1.out (fun h => h)); have OP6 := Lib.hid (x6.heap OP.out (fun h => h))
              clear x6
              go_wp2_with fail
              refine (rbegin_full r Y R w6 S6.out.rk (by have := R0.out.len; have := R0.out.most; omega)).mono ?_
              rintro e w7 ⟨rfl, x7⟩
              have S7 := Lib.hid (S6.out.quiet x7)
              have CS7 := Lib.hid (x7.heap CS6.out (fun h => h)); have OP7 := Lib.hid (x7.heap OP6.out (fun h => h))
              clear x7
              go_wp2
              go_meet
              exact ⟨23, 0, _, _, _, _, _, _, _, rfl, rfl, rfl, rfl, rfl, rfl, S7.out, R0.out, by have := ST0.out; omega, MO0.out, CS7.out, OP7.out⟩
            · have hm2 : B.next ≤ B.most := by omega
              go_wp2_with fail
              refine (begin_ok b Z B W1 S1.out.bk hm2 hs1).mono ?_
              rintro e w6 ⟨rfl, b6, x6⟩
              have S6 := Lib.hid (S1.out.left b6 x6)
              clear b6 x6
              go_wp2_with fail
              refine (rbegin_ok r Y R w6 S6.out.rk (by have := R0.out.len; have := R0.out.most; omega)).mono ?_
              rintro e w7 ⟨rfl, r7, x7⟩
              have S7 := Lib.hid (S6.out.rightX r7 x7)
              rw [R0.out.len]
              clear r7 x7
              go_wp2
              go_meet
              exact ⟨0, B.next, _, _, _, _, _, _, _, rfl, rfl, rfl, rfl, rfl, rfl, S7.out, R0.out.begin hm2, by have := ST0.out; show B.step + 1 ≤ _; omega, MO0.out, S7.out.heap CS1.out (.inl HLT.out), S7.out.heap OP.out (.inr rfl)⟩
          · by_cases h2 : Kk = 2
            · as_aux_lemma =>
              subst h2
              have oc1 := OC1.out
              go_wp2_with fail
              refine (commit_any b Z B W1 Tk S1.out.bk hs1).mono ?_
              rintro e w6 ⟨rfl, b6, x6⟩
              have S6 := Lib.hid (S1.out.left b6 x6)
              clear b6 x6 oc1
              have oc1 := cell_of_row w6 wq.heap.size 1 _ _ _ (S6.out.heap OP.out (.inr rfl))
              go_wp2_with fail
              refine (rend_any r Y R w6 Tk 2 S6.out.rk).mono ?_
              rintro e w7 ⟨rfl, r7, x7⟩
              have S7 := Lib.hid (S6.out.right r7 x7)
              rw [R0.out.endR]
              clear r7 x7 oc1
              go_wp2
              go_meet
              exact ⟨B.endR Tk, 0, _, _, _, _, _, _, _, rfl, rfl, rfl, rfl, rfl, rfl, S7.out, R0.out.endB Tk (.inl rfl), by have := (endB_same (B := B) Tk 2).1; have := ST0.out; omega, (endB_same (B := B) Tk 2).2.trans MO0.out, S7.out.heap CS1.out (.inl HLT.out), S7.out.heap OP.out (.inr rfl)⟩
            · by_cases h3 : Kk = 3
              · as_aux_lemma =>
                subst h3
                have oc1 := OC1.out
                go_wp2_with fail
                refine (abort_any b Z B W1 Tk S1.out.bk hs1).mono ?_
                rintro e w6 ⟨rfl, b6, x6⟩
                have S6 := Lib.hid (S1.out.left b6 x6)
                clear b6 x6 oc1
                have oc1 := cell_of_row w6 wq.heap.size 1 _ _ _ (S6.out.heap OP.out (.inr rfl))
                go_wp2_with fail
                refine (rend_any r Y R w6 Tk 3 S6.out.rk).mono ?_
                rintro e w7 ⟨rfl, r7, x7⟩
                have S7 := Lib.hid (S6.out.right r7 x7)
                rw [R0.out.endR]
                clear r7 x7 oc1
                go_wp2
                go_meet
                exact ⟨B.endR Tk, 0, _, _, _, _, _, _, _, rfl, rfl, rfl, rfl, rfl, rfl, S7.out, R0.out.endB Tk (.inr rfl), by have := (endB_same (B := B) Tk 3).1; have := ST0.out; omega, (endB_same (B := B) Tk 3).2.trans MO0.out, S7.out.heap CS1.out (.inl HLT.out), S7.out.heap OP.out (.inr rfl)⟩
              · by_cases h4 : Kk = 4
                · as_aux_lemma =>
                  subst h4
                  have q1 := cell_of_row W1 w.heap.size 1 _ _ _ CS1.out
                  have hno := R0.out.restart
                  rw [MO0.out] at hno
                  have HNO := Lib.hid hno
                  have hll : (B.list 2).length ≤ 9223372036854775807 := by
                    have h9 := R0.out.ok
                    have h8 := h9.n2; have h7 := h9.m1
                    have : (B.list 2).length ≤ (upto B.next).length := List.length_filter_le _ _
                    have h6 : (upto B.next).length = B.next.toNat := by unfold upto; simp
                    omega
                  have HLL := Lib.hid hll
                  clear hno hll
                  go_upto_region 30 with (fail)
                  refine wp_region_lex (fun w' => w'.cell? ⟨w.heap.size, 1, none⟩ = some (.int .i64 mo)) 99 [1, 5, 6] [0, 2, 3, 4, 1, 5, 6, 7, 8, 9, 10, 11] (by kernel_rfl) (by kernel_rfl) q1 ?_
                  clear q1
                  obtain ⟨W5, hW5⟩ : ∃ W5, W5 = W1.drew := ⟨_, rfl⟩
                  have x5 : Chg (fun _ => False) W1 W5 := by rw [hW5]; exact (Chg.refl _ _).drew
                  have S5 := Lib.hid (S1.out.quiet x5)
                  have CS5 := Lib.hid (x5.heap CS1.out (fun h => h)); have OP5 := Lib.hid (x5.heap OP.out (fun h => h))
                  rw [← hW5]
                  clear hW5 x5
                  iterate 4
                    refine' lex_free (v := _) rfl rfl rfl ?_ (fun _ _ _ h => h) ?_
                    rotate_left
                    · rintro W hW1
                      go_simp
                      with_reducible rfl
                    try simp only [Act.put, List.setIfInBounds_toArray, List.set_cons_zero, List.set_cons_succ]
                  refine lex_op rfl rfl rfl (fun K hK => ?_)
                  go_simp
                  refine (next_any b Z B W5 S5.out.bk).mono ?_
                  rintro e w6 ⟨rfl, rfl⟩
                  refine hK _ _ (fun _ => (cell_of_row W5 w.heap.size 1 _ _ _ CS5.out)) ?_
                  clear hK K
                  try simp only [Act.put, List.setIfInBounds_toArray, List.set_cons_zero, List.set_cons_succ]
                  refine lex_op rfl rfl rfl (fun K hK => ?_)
                  go_simp
                  refine (committed_any b Z B W5 S5.out.bk).mono ?_
                  rintro e w6 ⟨v6, rfl, hi6, x6⟩
                  obtain ⟨a6, c6, rfl, _⟩ := hi6.form
                  have I6 := Lib.hid (ints_sl hi6).2
                  have S6 := Lib.hid (S5.out.quiet x6)
                  have CS6 := Lib.hid (x6.heap CS5.out (fun h => h)); have OP6 := Lib.hid (x6.heap OP5.out (fun h => h))
                  clear hi6 x6
                  refine hK _ _ (fun _ => (cell_of_row w6 w.heap.size 1 _ _ _ CS6.out)) ?_
                  clear hK K
                  try simp only [Act.put, List.setIfInBounds_toArray, List.set_cons_zero, List.set_cons_succ]
                  refine lex_op rfl rfl rfl (fun K hK => ?_)
                  go_simp
                  refine (new_ok B.next mo a6 _ c6 (fun i => (B.list 2).getD i 0) w6 HLL.out I6.out HNO.out).mono ?_
                  rintro e w7 ⟨b7, rfl, hb7, x7⟩
                  have S7 := Lib.hid (S6.out.newL hb7 x7)
                  have CS7 := Lib.hid (x7.heap CS6.out (fun h => h)); have OP7 := Lib.hid (x7.heap OP6.out (fun h => h))
                  clear hb7 x7 I6
                  refine hK _ _ (fun _ => (cell_of_row w7 w.heap.size 1 _ _ _ CS7.out)) ?_
                  clear hK K
                  try simp only [Act.put, List.setIfInBounds_toArray, List.set_cons_zero, List.set_cons_succ]
                  iterate 5
                    refine' lex_free (v := _) rfl rfl rfl ?_ (fun _ _ _ h => h) ?_
                    rotate_left
                    · rintro W hW1
                      go_simp
                      with_reducible rfl
                    try simp only [Act.put, List.setIfInBounds_toArray, List.set_cons_zero, List.set_cons_succ]
                  refine lex_nil ?_
                  have hb7 := S7.out.rk
                  obtain ⟨v7, us7, h7⟩ := hb7
                  obtain ⟨g7, cap7, rfl, k0, _, _⟩ := h7.read
                  have HI7 := Lib.hid h7.self
                  have hln := R0.out.len
                  have HLN := Lib.hid hln
                  have HZ := Lib.hid (show (R.tx 0).st ≠ 2 by rw [R0.out.zero]; decide)
                  have q7 := cell_of_row w7 w.heap.size 1 _ _ _ CS7.out
                  clear h7 hln
                  go_upto_region 31 with (fail)
                  refine wp_region_lex (fun w' => w'.cell? ⟨w.heap.size, 1, none⟩ = some (.int .i64 mo) ∧ w'.cell? ⟨r, 0, none⟩ = some (.slice (some ⟨g7, 0, none⟩) R.l.length cap7)) 99 [8, 9] [0, 1, 2, 3, 4, 5, 6, 7, 8, 9, 10, 11, 12, 13, 14] (by kernel_rfl) (by kernel_rfl) ⟨q7, k0⟩ ?_
                  clear q7 k0
                  obtain ⟨W8, hW8⟩ : ∃ W8, W8 = w7.drew := ⟨_, rfl⟩
                  have x8 : Chg (fun _ => False) w7 W8 := by rw [hW8]; exact (Chg.refl _ _).drew
                  have S8 := Lib.hid (S7.out.quiet x8)
                  have CS8 := Lib.hid (x8.heap CS7.out (fun h => h)); have OP8 := Lib.hid (x8.heap OP7.out (fun h => h)); have HI8 := Lib.hid (x8.heap HI7.out (fun h => h))
                  rw [← hW8]
                  clear hW8 x8
                  iterate 8
                    refine' lex_free (v := _) rfl rfl rfl ?_ (fun _ _ _ h => h) ?_
                    rotate_left
                    · rintro W ⟨hW1, hW2⟩
                      go_simp
                      with_reducible rfl
                    try simp only [Act.put, List.setIfInBounds_toArray, List.set_cons_zero, List.set_cons_succ]
                  refine lex_op rfl rfl rfl (fun K hK => ?_)
                  go_simp
                  refine (rlist_any r Y R W8 2 HZ.out S8.out.rk).mono ?_
                  rintro e w9 ⟨v9, rfl, hi9, x9⟩
                  rw [R0.out.list (.inr rfl)] at hi9
                  obtain ⟨a9, c9, rfl, _⟩ := hi9.form
                  have I9 := Lib.hid (ints_sl hi9).2
                  have S9 := Lib.hid (S8.out.quiet x9)
                  have CS9 := Lib.hid (x9.heap CS8.out (fun h => h)); have OP9 := Lib.hid (x9.heap OP8.out (fun h => h)); have HI9 := Lib.hid (x9.heap HI8.out (fun h => h))
                  clear hi9 x9
                  refine hK _ _ (fun _ => ⟨cell_of_row w9 w.heap.size 1 _ _ _ CS9.out, cell_of_row w9 r 0 _ _ _ HI9.out⟩) ?_
                  clear hK K
                  try simp only [Act.put, List.setIfInBounds_toArray, List.set_cons_zero, List.set_cons_succ]
                  refine lex_op rfl rfl rfl (fun K hK => ?_)
                  go_simp
                  rw [HLN.out]
                  refine (rnew_any B.next mo a9 _ c9 (fun i => (B.list 2).getD i 0) w9 HLL.out I9.out).mono ?_
                  rintro e w10 (⟨_, r10, rfl, hr10, x10⟩ | ⟨hno10, _⟩)
                  · have S10 := Lib.hid (S9.out.newR hr10 x10)
                    have CS10 := Lib.hid (x10.heap CS9.out (fun h => h)); have OP10 := Lib.hid (x10.heap OP9.out (fun h => h)); have HI10 := Lib.hid (x10.heap HI9.out (fun h => h))
                    clear hr10 x10 I9
                    refine hK _ _ (fun _ => ⟨cell_of_row w10 w.heap.size 1 _ _ _ CS10.out, cell_of_row w10 r 0 _ _ _ HI10.out⟩) ?_
                    clear hK K
                    try simp only [Act.put, List.setIfInBounds_toArray, List.set_cons_zero, List.set_cons_succ]
                    iterate 5
                      refine' lex_free (v := _) rfl rfl rfl ?_ (fun _ _ _ h => h) ?_
                      rotate_left
                      · rintro W ⟨hW1, hW2⟩
                        go_simp
                        with_reducible rfl
                      try simp only [Act.put, List.setIfInBounds_toArray, List.set_cons_zero, List.set_cons_succ]
                    refine lex_nil ?_
                    go_wp2
                    go_meet
                    exact ⟨0, 0, _, _, _, _, _, _, _, rfl, rfl, rfl, rfl, rfl, rfl, S10.out, Rel.start HNO.out, by show (0 : Int) ≤ _; omega, rfl, CS10.out, OP10.out⟩
                  · exact absurd HNO.out hno10
                · as_aux_lemma =>
                  go_wp2
                  go_meet
                  exact ⟨0, 0, _, _, _, _, _, _, _, rfl, rfl, rfl, rfl, rfl, rfl, S1.out, R0.out, by have := ST0.out; omega, MO0.out, CS1.out, OP.out⟩
        case rest =>
          obtain ⟨e1, x1, B1, R1, Z1, Y1, b1, r1, W2, rfl, rfl, rfl, rfl, rfl, rfl, hsb, hrel2, hst, hmo, hcs, hop⟩ := hcut
          have S2 := Lib.hid hsb.here; have R2 := Lib.hid hrel2; have ST2 := Lib.hid hst; have MO2 := Lib.hid hmo; have CS2 := Lib.hid hcs; have OP2 := Lib.hid hop
          clear hsb hrel2 hst hmo hcs hop S1 R0 ST0 MO0 OP CS1 OC1
          go_upto_region 32 with (fail)
          go_cut [183] (fun s wx => s = .bool false ∧ Chg (fun _ => False) wc wx)
          case first =>
           as_aux_lemma =>
            obtain ⟨v7, us7, h7⟩ := S2.out.rk
            obtain ⟨g7, cap7, rfl, k0, _, _⟩ := h7.read
            have hrs := h7.self
            have q1 := cell_of_row wc wq.heap.size 1 _ _ _ OP2.out
            have q2 := cell_of_row wc wq.heap.size 2 _ _ _ OP2.out
            have Z1h := Lib.hid (show (R1.tx 0).st ≠ 1 by rw [R2.out.zero]; decide)
            have Z2h := Lib.hid (show (R1.tx 0).st ≠ 2 by rw [R2.out.zero]; decide)
            have RC2 := Lib.hid hrs
            clear h7 hrs
            go_wp2_with fail
            refine wp_region_lex (fun w' => w'.cell? ⟨wq.heap.size, 1, none⟩ = some (.int .i64 Tk) ∧ w'.cell? ⟨wq.heap.size, 2, none⟩ = some (.int .i64 Uk) ∧ w'.cell? ⟨r1, 0, none⟩ = some (.slice (some ⟨g7, 0, none⟩) R1.l.length cap7)) 99 [15, 20, 22, 23, 28, 30, 31, 39] [0, 1, 2, 3, 4, 5, 6, 7, 8, 9, 10, 11, 12, 13, 14, 15, 16, 17, 18, 19, 21, 20, 22, 23, 24, 25, 26, 27, 29, 28, 30, 31, 32, 33, 34, 35, 36, 37, 38, 40, 41, 42, 43, 44, 39, 45, 46, 47] (by kernel_rfl) (by kernel_rfl) ⟨q1, q2, k0⟩ ?_
            clear q1 q2 k0
            obtain ⟨W8, hW8⟩ : ∃ W8, W8 = wc.drew := ⟨_, rfl⟩
            have x8 : Chg (fun _ => False) wc W8 := by rw [hW8]; exact (Chg.refl _ _).drew
            have X2 := Lib.hid (Chg.refl (fun _ => False) wc)
            have S8 := Lib.hid (S2.out.quiet x8)
            have OP8 := Lib.hid (x8.heap OP2.out (fun h => h)); have RC8 := Lib.hid (x8.heap RC2.out (fun h => h)); have X8 := Lib.hid (X2.out.trans x8 (fun _ h => h.elim))
            rw [← hW8]
            clear hW8 x8
            iterate 4
              refine' lex_free (v := _) rfl rfl rfl ?_ (fun _ _ _ h => h) ?_
              rotate_left
              · rintro W ⟨hW1, hW2, hW3⟩
                go_simp
                with_reducible rfl
              try simp only [Act.put, List.setIfInBounds_toArray, List.set_cons_zero, List.set_cons_succ]
            iterate 3
              refine' lex_freeG (v := _) rfl rfl rfl ?_ (fun _ _ _ h => h) ?_
              rotate_left
              · rintro W ⟨hW1, hW2, hW3⟩
                go_simp
                with_reducible rfl
              try simp only [Act.put, List.setIfInBounds_toArray, List.set_cons_zero, List.set_cons_succ]
            iterate 2
              refine' lex_free (v := _) rfl rfl rfl ?_ (fun _ _ _ h => h) ?_
              rotate_left
              · rintro W ⟨hW1, hW2, hW3⟩
                go_simp
                with_reducible rfl
              try simp only [Act.put, List.setIfInBounds_toArray, List.set_cons_zero, List.set_cons_succ]
            iterate 6
              refine' lex_freeG (v := _) rfl rfl rfl ?_ (fun _ _ _ h => h) ?_
              rotate_left
              · rintro W ⟨hW1, hW2, hW3⟩
                go_simp
                with_reducible rfl
              try simp only [Act.put, List.setIfInBounds_toArray, List.set_cons_zero, List.set_cons_succ]
            refine lex_opG rfl rfl rfl (fun K hK => ?_)
            go_simp
            refine (alike_any b1 r1 Z1 Y1 B1 R1 W8 Tk Uk S8.out.bk S8.out.rk R2.out).mono ?_
            rintro e w9 ⟨rfl, x9⟩
            have S9 := Lib.hid (S8.out.quiet x9)
            have OP9 := Lib.hid (x9.heap OP8.out (fun h => h)); have RC9 := Lib.hid (x9.heap RC8.out (fun h => h)); have X9 := Lib.hid (X8.out.trans x9 (fun _ h => h.elim))
            clear x9
            refine hK _ _ (fun _ => ⟨cell_of_row w9 wq.heap.size 1 _ _ _ OP9.out, cell_of_row w9 wq.heap.size 2 _ _ _ OP9.out, cell_of_row w9 r1 0 _ _ _ RC9.out⟩) ?_
            clear hK K
            try simp only [Act.put, List.setIfInBounds_toArray, List.set_cons_zero, List.set_cons_succ]
            iterate 1
              refine' lex_freeG (v := _) rfl rfl rfl ?_ (fun _ _ _ h => h) ?_
              rotate_left
              · rintro W ⟨hW1, hW2, hW3⟩
                go_simp
                with_reducible rfl
              try simp only [Act.put, List.setIfInBounds_toArray, List.set_cons_zero, List.set_cons_succ]
            iterate 2
              refine' lex_free (v := _) rfl rfl rfl ?_ (fun _ _ _ h => h) ?_
              rotate_left
              · rintro W ⟨hW1, hW2, hW3⟩
                go_simp
                with_reducible rfl
              try simp only [Act.put, List.setIfInBounds_toArray, List.set_cons_zero, List.set_cons_succ]
            iterate 2
              refine' lex_freeG (v := _) rfl rfl rfl ?_ (fun _ _ _ h => h) ?_
              rotate_left
              · rintro W ⟨hW1, hW2, hW3⟩
                go_simp
                with_reducible rfl
              try simp only [Act.put, List.setIfInBounds_toArray, List.set_cons_zero, List.set_cons_succ]
            refine lex_opG rfl rfl rfl (fun K hK => ?_)
            go_simp
            refine (active_any b1 Z1 B1 w9 S9.out.bk).mono ?_
            rintro e w10 ⟨va, rfl, ha, x10⟩
            have S10 := Lib.hid (S9.out.quiet x10)
            have OP10 := Lib.hid (x10.heap OP9.out (fun h => h)); have RC10 := Lib.hid (x10.heap RC9.out (fun h => h)); have X10 := Lib.hid (X9.out.trans x10 (fun _ h => h.elim))
            have HA := Lib.hid ha
            clear x10 ha
            refine hK _ _ (fun _ => ⟨cell_of_row w10 wq.heap.size 1 _ _ _ OP10.out, cell_of_row w10 wq.heap.size 2 _ _ _ OP10.out, cell_of_row w10 r1 0 _ _ _ RC10.out⟩) ?_
            clear hK K
            try simp only [Act.put, List.setIfInBounds_toArray, List.set_cons_zero, List.set_cons_succ]
            refine lex_opG rfl rfl rfl (fun K hK => ?_)
            go_simp
            refine (rlist_any r1 Y1 R1 w10 1 Z1h.out S10.out.rk).mono ?_
            rintro e w11 ⟨vb, rfl, hb, x11⟩
            rw [R2.out.list (.inl rfl)] at hb
            have S11 := Lib.hid (S10.out.quiet x11)
            have OP11 := Lib.hid (x11.heap OP10.out (fun h => h)); have RC11 := Lib.hid (x11.heap RC10.out (fun h => h)); have X11 := Lib.hid (X10.out.trans x11 (fun _ h => h.elim))
            have HA2 := Lib.hid (HA.out.quiet x11); have HB := Lib.hid hb
            clear x11 hb
            refine hK _ _ (fun _ => ⟨cell_of_row w11 wq.heap.size 1 _ _ _ OP11.out, cell_of_row w11 wq.heap.size 2 _ _ _ OP11.out, cell_of_row w11 r1 0 _ _ _ RC11.out⟩) ?_
            clear hK K
            try simp only [Act.put, List.setIfInBounds_toArray, List.set_cons_zero, List.set_cons_succ]
            refine lex_opG rfl rfl rfl (fun K hK => ?_)
            go_simp
            refine (same_eq va vb (B1.list 1) _ _ w11 HA2.out HB.out).mono ?_
            rintro e w12 ⟨rfl, x12⟩
            have S12 := Lib.hid (S11.out.quiet x12)
            have OP12 := Lib.hid (x12.heap OP11.out (fun h => h)); have RC12 := Lib.hid (x12.heap RC11.out (fun h => h)); have X12 := Lib.hid (X11.out.trans x12 (fun _ h => h.elim))
            clear x12
            refine hK _ _ (fun _ => ⟨cell_of_row w12 wq.heap.size 1 _ _ _ OP12.out, cell_of_row w12 wq.heap.size 2 _ _ _ OP12.out, cell_of_row w12 r1 0 _ _ _ RC12.out⟩) ?_
            clear hK K
            try simp only [Act.put, List.setIfInBounds_toArray, List.set_cons_zero, List.set_cons_succ]
            iterate 1
              refine' lex_freeG (v := _) rfl rfl rfl ?_ (fun _ _ _ h => h) ?_
              rotate_left
              · rintro W ⟨hW1, hW2, hW3⟩
                go_simp
                with_reducible rfl
              try simp only [Act.put, List.setIfInBounds_toArray, List.set_cons_zero, List.set_cons_succ]
            iterate 2
              refine' lex_free (v := _) rfl rfl rfl ?_ (fun _ _ _ h => h) ?_
              rotate_left
              · rintro W ⟨hW1, hW2, hW3⟩
                go_simp
                with_reducible rfl
              try simp only [Act.put, List.setIfInBounds_toArray, List.set_cons_zero, List.set_cons_succ]
            iterate 2
              refine' lex_freeG (v := _) rfl rfl rfl ?_ (fun _ _ _ h => h) ?_
              rotate_left
              · rintro W ⟨hW1, hW2, hW3⟩
                go_simp
                with_reducible rfl
              try simp only [Act.put, List.setIfInBounds_toArray, List.set_cons_zero, List.set_cons_succ]
            refine lex_opG rfl rfl rfl (fun K hK => ?_)
            go_simp
            refine (committed_any b1 Z1 B1 w12 S12.out.bk).mono ?_
            rintro e w13 ⟨vc, rfl, hc, x13⟩
            have S13 := Lib.hid (S12.out.quiet x13)
            have OP13 := Lib.hid (x13.heap OP12.out (fun h => h)); have RC13 := Lib.hid (x13.heap RC12.out (fun h => h)); have X13 := Lib.hid (X12.out.trans x13 (fun _ h => h.elim))
            have HC := Lib.hid hc
            clear x13 hc
            refine hK _ _ (fun _ => ⟨cell_of_row w13 wq.heap.size 1 _ _ _ OP13.out, cell_of_row w13 wq.heap.size 2 _ _ _ OP13.out, cell_of_row w13 r1 0 _ _ _ RC13.out⟩) ?_
            clear hK K
            try simp only [Act.put, List.setIfInBounds_toArray, List.set_cons_zero, List.set_cons_succ]
            refine lex_opG rfl rfl rfl (fun K hK => ?_)
            go_simp
            refine (rlist_any r1 Y1 R1 w13 2 Z2h.out S13.out.rk).mono ?_
            rintro e w14 ⟨vd, rfl, hd, x14⟩
            rw [R2.out.list (.inr rfl)] at hd
            have S14 := Lib.hid (S13.out.quiet x14)
            have OP14 := Lib.hid (x14.heap OP13.out (fun h => h)); have RC14 := Lib.hid (x14.heap RC13.out (fun h => h)); have X14 := Lib.hid (X13.out.trans x14 (fun _ h => h.elim))
            have HC2 := Lib.hid (HC.out.quiet x14); have HD := Lib.hid hd
            clear x14 hd
            refine hK _ _ (fun _ => ⟨cell_of_row w14 wq.heap.size 1 _ _ _ OP14.out, cell_of_row w14 wq.heap.size 2 _ _ _ OP14.out, cell_of_row w14 r1 0 _ _ _ RC14.out⟩) ?_
            clear hK K
            try simp only [Act.put, List.setIfInBounds_toArray, List.set_cons_zero, List.set_cons_succ]
            refine lex_opG rfl rfl rfl (fun K hK => ?_)
            go_simp
            refine (same_eq vc vd (B1.list 2) _ _ w14 HC2.out HD.out).mono ?_
            rintro e w15 ⟨rfl, x15⟩
            have S15 := Lib.hid (S14.out.quiet x15)
            have OP15 := Lib.hid (x15.heap OP14.out (fun h => h)); have RC15 := Lib.hid (x15.heap RC14.out (fun h => h)); have X15 := Lib.hid (X14.out.trans x15 (fun _ h => h.elim))
            clear x15
            refine hK _ _ (fun _ => ⟨cell_of_row w15 wq.heap.size 1 _ _ _ OP15.out, cell_of_row w15 wq.heap.size 2 _ _ _ OP15.out, cell_of_row w15 r1 0 _ _ _ RC15.out⟩) ?_
            clear hK K
            try simp only [Act.put, List.setIfInBounds_toArray, List.set_cons_zero, List.set_cons_succ]
            iterate 1
              refine' lex_freeG (v := _) rfl rfl rfl ?_ (fun _ _ _ h => h) ?_
              rotate_left
              · rintro W ⟨hW1, hW2, hW3⟩
                go_simp
                with_reducible rfl
              try simp only [Act.put, List.setIfInBounds_toArray, List.set_cons_zero, List.set_cons_succ]
            iterate 2
              refine' lex_free (v := _) rfl rfl rfl ?_ (fun _ _ _ h => h) ?_
              rotate_left
              · rintro W ⟨hW1, hW2, hW3⟩
                go_simp
                with_reducible rfl
              try simp only [Act.put, List.setIfInBounds_toArray, List.set_cons_zero, List.set_cons_succ]
            iterate 3
              refine' lex_freeG (v := _) rfl rfl rfl ?_ (fun _ _ _ h => h) ?_
              rotate_left
              · rintro W ⟨hW1, hW2, hW3⟩
                go_simp
                with_reducible rfl
              try simp only [Act.put, List.setIfInBounds_toArray, List.set_cons_zero, List.set_cons_succ]
            iterate 1
              refine' lex_freeG (v := _) rfl rfl rfl ?_ (fun _ _ _ h => h) ?_
              rotate_left
              · rintro W ⟨hW1, hW2, hW3⟩
                go_simp
                with_reducible rfl
              try simp only [Act.put, List.setIfInBounds_toArray, List.set_cons_zero, List.set_cons_succ]
            iterate 5
              refine' lex_freeG (v := _) rfl rfl rfl ?_ (fun _ _ _ h => h) ?_
              rotate_left
              · rintro W ⟨hW1, hW2, hW3⟩
                go_simp
                with_reducible rfl
              try simp only [Act.put, List.setIfInBounds_toArray, List.set_cons_zero, List.set_cons_succ]
            refine lex_opG rfl rfl rfl (fun K hK => ?_)
            go_simp
            have hnx : Calls Try.prog 16 #[.pointer (some ⟨b1, 0, none⟩)] w15 fun e w' => e = .returned (.int .i64 (R1.l.length : Int)) ∧ w15 = w' := by
              rw [R2.out.len]
              exact next_any b1 Z1 B1 w15 S15.out.bk
            refine hnx.mono ?_
            rintro e w16 ⟨rfl, rfl⟩
            clear hnx
            refine hK _ _ (fun _ => ⟨cell_of_row w15 wq.heap.size 1 _ _ _ OP15.out, cell_of_row w15 wq.heap.size 2 _ _ _ OP15.out, cell_of_row w15 r1 0 _ _ _ RC15.out⟩) ?_
            clear hK K
            try simp only [Act.put, List.setIfInBounds_toArray, List.set_cons_zero, List.set_cons_succ]
            iterate 2
              refine' lex_freeG (v := _) rfl rfl rfl ?_ (fun _ _ _ h => h) ?_
              rotate_left
              · rintro W ⟨hW1, hW2, hW3⟩
                go_simp
                with_reducible rfl
              try simp only [Act.put, List.setIfInBounds_toArray, List.set_cons_zero, List.set_cons_succ]
            iterate 1
              refine' lex_free (v := _) rfl rfl rfl ?_ (fun _ _ _ h => h) ?_
              rotate_left
              · rintro W ⟨hW1, hW2, hW3⟩
                go_simp
                with_reducible rfl
              try simp only [Act.put, List.setIfInBounds_toArray, List.set_cons_zero, List.set_cons_succ]
            refine lex_nil ?_
            go_wp2
            go_meet
            exact ⟨rfl, X15.out⟩
          case rest =>
            obtain ⟨rfl, hx⟩ := hcut
            have S5 := Lib.hid (S2.out.quiet hx)
            have CS5 := Lib.hid (hx.heap CS2.out (fun h => h))
            clear hx
            go_wp2
            go_roundg (gk - 1)
            case measure => omega
            case rel => exact ⟨k + 1, B1, R1, Z1, Y1, b1, r1, _, by omega, by go_num, rfl, rfl, S5.out.less (fun _ h => .inl h) (fun q hq => by have := HLT.out; omega), R2.out, ST2.out, MO2.out, CS5.out⟩
      · as_aux_lemma =>
        obtain rfl : k = len := by omega
        have hn1 := R0.out.rok.n1
        have hb16 : (R.l.length : Int) ≤ 16777217 := by have h9 := R0.out.rok; have := h9.n2; have := h9.m1; omega
        go_wp2
        go_loopw [14] (fun s14 wr => ∃ t : Int, -1 ≤ t ∧ t ≤ R.l.length + 1 ∧ s14 = .int .i64 t ∧ Chg (fun _ => False) wq wr) (fun s14 _ => (R.l.length + 1 - intOf s14).toNat)
        case atStart => exact ⟨-1, Int.le_refl _, by omega, rfl, Chg.refl _ _⟩
        case round =>
          obtain ⟨t, t0, t1, rfl, hx⟩ := hrel
          have SX := Lib.hid (S0.out.quiet hx); have HX := Lib.hid hx
          clear hx
          obtain ⟨v7, us7, h7⟩ := SX.out.rk
          obtain ⟨g7, cap7, rfl, k0, _, _⟩ := h7.read
          have HI7 := Lib.hid h7.self
          clear h7
          by_cases ht : t ≤ R.l.length
          · obtain ⟨wt, h4⟩ : ∃ x, x = wr := ⟨_, rfl⟩
            subst h4
            go_wp2
            go_loopw [15] (fun s15 wr => ∃ u : Int, -1 ≤ u ∧ u ≤ R.l.length + 1 ∧ s15 = .int .i64 u ∧ Chg (fun _ => False) wt wr) (fun s15 _ => (R.l.length + 1 - intOf s15).toNat)
            case atStart => exact ⟨-1, Int.le_refl _, by omega, rfl, Chg.refl _ _⟩
            case round =>
              obtain ⟨u, u0, u1, rfl, hy⟩ := hrel
              have SY := Lib.hid (SX.out.quiet hy); have HY := Lib.hid hy
              have k1 := cell_of_row wr r 0 _ _ _ (hy.heap HI7.out (fun h => h))
              clear hy k0
              by_cases hu : u ≤ R.l.length
              · go_wp2_with fail
                refine (alike_any b r Z Y B R wr t u SY.out.bk SY.out.rk R0.out).mono ?_
                rintro e w9 ⟨rfl, x9⟩
                have X9 := Lib.hid (HY.out.trans x9 (fun _ h => h.elim))
                clear x9 k1
                go_wp2
                go_roundw
                case rel => exact ⟨u + 1, by omega, by omega, by go_num, X9.out⟩
                case measure => simp only [intOf]; omega
              · go_wp2
                go_roundw
                case rel => exact ⟨t + 1, by omega, by omega, by go_num, HX.out.trans HY.out (fun _ h => h.elim)⟩
                case measure => simp only [intOf]; omega
          · go_wp2
            go_ret
            exact ⟨rfl, SX.out.all⟩
  · exact absurd HOK.out hno
end Go.Proofs.Ytkneldeemlngkaa
