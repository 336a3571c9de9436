/-
  The document's test of a table, and its comparison of tables that are the same. No condition beyond each lemma's own.
-/
import Derived.Test.YtpiijcjbphpffaaCCat
import Derived.Test.YtpiijcjbphpffaaCRName
set_option autoImplicit false
namespace Go.Proofs.Ytpiijcjbphpffaa
open Go Go.RowKit

theorem mayB_name {n : ByteArray} {cs : List Col} (h : nameB n = false) : mayB n cs = false := by unfold mayB; rw [h]; simp
theorem mayB_few {n : ByteArray} {cs : List Col} (h : ¬ 0 < cs.length) : mayB n cs = false := by unfold mayB; rw [decide_eq_false h]; simp
theorem mayB_many {n : ByteArray} {cs : List Col} (h : 16 < cs.length) : mayB n cs = false := by unfold mayB; rw [decide_eq_false (show ¬ cs.length ≤ 16 by omega)]; simp
theorem any_hit {cs : List Col} {i k : Nat} {y : Col} {x : ByteArray} (hk : k < i) (hy : cs[k]? = some y) (h : (y.name == x) = true) : (cs.take i).any (fun d => d.name == x) = true := by
  rw [List.any_eq_true]
  refine ⟨y, ?_, h⟩
  have : (cs.take i)[k]? = some y := by rw [List.getElem?_take, if_pos hk]; exact hy
  exact List.mem_of_getElem? this
theorem any_miss {cs : List Col} {i : Nat} {x : ByteArray} (h : ∀ (j : Nat) (c : Col), j < i → cs[j]? = some c → (c.name == x) = false) : (cs.take i).any (fun d => d.name == x) = false := by
  rw [List.any_eq_false]
  intro d hd
  obtain ⟨j, hj, rfl⟩ := List.getElem_of_mem hd
  have hj' : j < i := by simp at hj; omega
  have := h j (cs.take i)[j] hj' (by rw [List.getElem_take]; simp)
  rw [this]; simp
set_option maxRecDepth 100000 in
set_option maxHeartbeats 1000000 in
theorem rmay_any (n : ByteArray) (v : Value) (F : Nat → Prop) (cs : List Col) (w : World) (hv : ColsAt w F v cs) (hm : cs.length ≤ 9223372036854775807) (hn : big n) (hb : ∀ c ∈ cs, big c.name) :
    Calls Try.prog 48 #[.agg #[.string n, v]] w fun e w' => e = .returned (.bool (mayB n cs)) ∧ Chg (fun _ => False) w w' := by
  obtain ⟨ao, cap, rfl, hp⟩ := hv
  have HV : Hid (ColsAt w F (.slice ao cs.length cap) cs) := Lib.hid ⟨ao, cap, rfl, hp⟩
  have HB := Lib.hid hb
  clear hp hb
  obtain ⟨W1, hW1⟩ : ∃ W1, W1 = w.alloc (.cells #[.string n, .slice ao cs.length cap] 27) := ⟨_, rfl⟩
  have x1 : Chg (fun _ => False) w W1 := by subst hW1; exact (Chg.refl _ _).alloc _
  have b1 : W1.heap[w.heap.size]? = some (.cells #[.string n, .slice ao cs.length cap] 27 (0, 0)) := by subst hW1; exact hal_new
  have c0 := cell_of_row W1 w.heap.size 0 _ _ _ b1
  have c1 := cell_of_row W1 w.heap.size 1 _ _ _ b1
  have X1 := Lib.hid x1; have B1 := Lib.hid b1; have HW := Lib.hid hW1
  clear x1 b1 hW1
  cases h1 : nameB n with
  | false =>
    have h1' := Lib.hid h1
    clear h1
    go_enter Try.func48, Try.ntmps48
    go_wp2_with fail
    rw [← HW.out]
    refine (rname_any n _ hn).mono ?_
    rw [h1'.out]
    rintro e w' ⟨rfl, rfl⟩
    go_wp2
    go_ret
    exact ⟨ret_bool (mayB_name h1'.out).symm, X1.out⟩
  | true =>
    have h1' := Lib.hid h1
    clear h1
    by_cases h0 : 0 < cs.length
    · by_cases h16 : 16 < cs.length
      · go_enter Try.func48, Try.ntmps48
        go_wp2_with fail
        rw [← HW.out]
        refine (rname_any n _ hn).mono ?_
        rw [h1'.out]
        rintro e w' ⟨rfl, rfl⟩
        go_wp2
        go_ret
        exact ⟨ret_bool (mayB_many h16).symm, X1.out⟩
      · go_enter Try.func48, Try.ntmps48
        go_wp2_with fail
        rw [← HW.out]
        refine (rname_any n _ hn).mono ?_
        rw [h1'.out]
        rintro e w' ⟨rfl, rfl⟩
        go_wp2
        go_loopw [3] (fun s wr => ∃ i : Nat, i ≤ cs.length ∧ s = .int .i64 i ∧ Hid (colsOk cs i = true) ∧ Hid (Chg (fun _ => False) W1 wr)) (fun s _ => cs.length - (intOf s).toNat)
        case atStart => exact ⟨0, Nat.zero_le _, rfl, Lib.hid (by simp [colsOk]), Lib.hid (Chg.refl _ _)⟩
        case round =>
          clear c0 c1
          obtain ⟨i, hi, rfl, HC, HX⟩ := hrel
          have bt := HX.out.heap B1.out (fun h => h)
          have c0 := cell_of_row wr w.heap.size 0 _ _ _ bt
          have c1 := cell_of_row wr w.heap.size 1 _ _ _ bt
          clear bt
          by_cases hlt : i < cs.length
          · obtain ⟨x, hx⟩ : ∃ x, cs[i]? = some x := ⟨_, List.getElem?_eq_getElem hlt⟩
            obtain ⟨b, o, rfl, hbl, _, q0, q1, q2, q3⟩ := ColsAt.col (w := wr) rfl (RowAt.quiet HV.out (X1.out.trans HX.out (fun _ h => h.elim))) hx
            have HG := Lib.hid hx
            have hnm : big x.name := HB.out x (List.mem_of_getElem? hx)
            have HS := Lib.hid (colsOk_succ hx)
            clear hx
            have HXX := Lib.hid (X1.out.trans HX.out (fun _ h => h.elim))
            cases h2 : nameB x.name with
            | false =>
              have h2' := Lib.hid h2
              have HN := Lib.hid (mayB_no (n := n) hlt (by rw [HS.out, show colOk cs i x = false by unfold colOk; rw [h2]; rfl, Bool.and_false]))
              clear h2
              go_wp2_with fail
              refine (rname_any x.name _ hnm).mono ?_
              rw [h2'.out]
              rintro e w' ⟨rfl, rfl⟩
              go_wp2
              go_ret
              exact ⟨ret_bool HN.out.symm, HXX.out⟩
            | true =>
              have h2' := Lib.hid h2
              clear h2
              by_cases h3 : x.ty < 1
              · have HN := Lib.hid (mayB_no (n := n) hlt (by rw [HS.out, ty_no cs i x (.inl h3), Bool.and_false]))
                go_wp2_with fail
                refine (rname_any x.name _ hnm).mono ?_
                rw [h2'.out]
                rintro e w' ⟨rfl, rfl⟩
                go_wp2
                go_ret
                exact ⟨ret_bool HN.out.symm, HXX.out⟩
              · by_cases h4 : 3 < x.ty
                · have HN := Lib.hid (mayB_no (n := n) hlt (by rw [HS.out, ty_no cs i x (.inr h4), Bool.and_false]))
                  go_wp2_with fail
                  refine (rname_any x.name _ hnm).mono ?_
                  rw [h2'.out]
                  rintro e w' ⟨rfl, rfl⟩
                  go_wp2
                  go_ret
                  exact ⟨ret_bool HN.out.symm, HXX.out⟩
                · go_wp2_with fail
                  refine (rname_any x.name _ hnm).mono ?_
                  rw [h2'.out]
                  rintro e w' ⟨rfl, rfl⟩
                  go_wp2
                  obtain ⟨w3, hw3⟩ : ∃ w3, w3 = wr := ⟨_, rfl⟩
                  subst hw3
                  have Q0 := Lib.hid q0
                  clear q1 q2 q3 q0 c0 c1
                  go_loopw [4] (fun s wr => ∃ k : Nat, k ≤ i ∧ s = .int .i64 k ∧ Hid (∀ (j : Nat) (c : Col), j < k → cs[j]? = some c → (c.name == x.name) = false) ∧ Hid (Chg (fun _ => False) w3 wr)) (fun s _ => i - (intOf s).toNat)
                  case atStart => exact ⟨0, Nat.zero_le _, rfl, Lib.hid (fun j c h => by omega), Lib.hid (Chg.refl _ _)⟩
                  case round =>
                    obtain ⟨k, hk, rfl, HM, HY⟩ := hrel
                    have bt := (HX.out.trans HY.out (fun _ h => h.elim)).heap B1.out (fun h => h)
                    have c0 := cell_of_row wr w.heap.size 0 _ _ _ bt
                    have c1 := cell_of_row wr w.heap.size 1 _ _ _ bt
                    have HZ := Lib.hid (HXX.out.trans HY.out (fun _ h => h.elim))
                    have q0 := (cell_of_heap (HY.out.keep b hbl (fun h => h))).trans Q0.out
                    clear bt
                    by_cases hki : k < i
                    · obtain ⟨y, hy⟩ : ∃ y, cs[k]? = some y := ⟨_, List.getElem?_eq_getElem (by omega)⟩
                      obtain ⟨b2, o2, he2, _, _, p0, p1, p2, p3⟩ := ColsAt.col (w := wr) rfl (RowAt.quiet HV.out HZ.out) hy
                      simp only [Option.some.injEq, Addr.mk.injEq] at he2
                      obtain ⟨rfl, rfl, _⟩ := he2
                      have HY' := Lib.hid hy
                      clear hy p1 p2 p3
                      cases h5 : y.name == x.name with
                      | true =>
                        have HN := Lib.hid (mayB_no (n := n) hlt (by rw [HS.out, show colOk cs i x = false by unfold colOk; rw [any_hit hki HY'.out h5]; simp, Bool.and_false]))
                        rw [beq_list] at h5
                        go_wp2
                        go_quiet (fail)
                        go_wp2
                        go_ret
                        exact ⟨ret_bool HN.out.symm, HZ.out.drewN _⟩
                      | false =>
                        have H5 := Lib.hid h5
                        rw [beq_list] at h5
                        go_wp2
                        go_quiet (fail)
                        go_wp2
                        go_roundw
                        case rel => exact ⟨k + 1, by omega, by go_num, Lib.hid (fun j c hj hc => by
                          by_cases hjk : j = k
                          · subst hjk; rw [HY'.out] at hc; obtain rfl := Option.some.inj hc; exact H5.out
                          · exact HM.out j c (by omega) hc), Lib.hid (HY.out.drewN _)⟩
                        case measure => simp [intOf]; omega
                    · have HK := Lib.hid (show k = i by omega)
                      go_wp2
                      go_roundw
                      case rel =>
                        refine ⟨i + 1, by omega, by go_num, Lib.hid ?_, Lib.hid (HX.out.trans HY.out (fun _ h => h.elim))⟩
                        rw [HS.out, HC.out]
                        unfold colOk
                        have hM := HM.out
                        rw [HK.out] at hM
                        rw [h2'.out, any_miss hM, show decide (1 ≤ x.ty) = true by simp; omega, show decide (x.ty ≤ 3) = true by simp; omega]
                        rfl
                      case measure => simp [intOf]; omega
          · have HE := Lib.hid (show i = cs.length by omega)
            go_wp2
            go_ret
            have hC := HC.out
            rw [HE.out] at hC
            refine ⟨ret_bool ?_, X1.out.trans HX.out (fun _ h => h.elim)⟩
            unfold mayB
            rw [h1'.out, hC, decide_eq_true h0, decide_eq_true (show cs.length ≤ 16 by omega)]
            rfl
    · go_enter Try.func48, Try.ntmps48
      go_wp2_with fail
      rw [← HW.out]
      refine (rname_any n _ hn).mono ?_
      rw [h1'.out]
      rintro e w' ⟨rfl, rfl⟩
      go_wp2
      go_ret
      exact ⟨ret_bool (mayB_few h0).symm, X1.out⟩
set_option maxRecDepth 100000 in
set_option maxHeartbeats 1000000 in
theorem rsameT_any (n : ByteArray) (v u : Value) (F G : Nat → Prop) (cs : List Col) (w : World) (hv : ColsAt w F v cs) (hu : ColsAt w G u cs) (hm : cs.length ≤ 9223372036854775807) :
    Calls Try.prog 40 #[.agg #[.string n, v], .agg #[.string n, u]] w fun e w' => e = .returned (.bool true) ∧ Chg (fun _ => False) w w' := by
  obtain ⟨ao, cap, rfl, hp⟩ := hv
  obtain ⟨bo, cap2, rfl, hq⟩ := hu
  have HV : Hid (ColsAt w F (.slice ao cs.length cap) cs) := Lib.hid ⟨ao, cap, rfl, hp⟩
  have HU : Hid (ColsAt w G (.slice bo cs.length cap2) cs) := Lib.hid ⟨bo, cap2, rfl, hq⟩
  clear hp hq
  go_enter Try.func40, Try.ntmps40
  go_wp2
  obtain ⟨W1, hW1⟩ : ∃ W1, W1 = (w.alloc (.cells #[.string n, .slice ao cs.length cap] 27)).alloc (.cells #[.string n, .slice bo cs.length cap2] 27) := ⟨_, rfl⟩
  rw [← hW1]
  have x1 : Chg (fun _ => False) w W1 := by subst hW1; exact ((Chg.refl _ _).alloc _).alloc _
  have b1 : W1.heap[w.heap.size]? = some (.cells #[.string n, .slice ao cs.length cap] 27 (0, 0)) := by subst hW1; rw [hal_old (by simp), hal_new]
  have b2 : W1.heap[w.heap.size + 1]? = some (.cells #[.string n, .slice bo cs.length cap2] 27 (0, 0)) := by subst hW1; rw [hal_new' (by simp)]
  have X1 := Lib.hid x1; have B1 := Lib.hid b1; have B2 := Lib.hid b2
  clear x1 b1 b2 hW1
  go_loopw [5] (fun s wr => ∃ i : Nat, i ≤ cs.length ∧ s = .int .i64 i ∧ Hid (Chg (fun _ => False) W1 wr)) (fun s _ => cs.length - (intOf s).toNat)
  case atStart => exact ⟨0, Nat.zero_le _, rfl, Lib.hid (Chg.refl _ _)⟩
  case round =>
    obtain ⟨k, hk, rfl, HX⟩ := hrel
    have bt := HX.out.heap B1.out (fun h => h)
    have bu := HX.out.heap B2.out (fun h => h)
    have c1 := cell_of_row wr w.heap.size 1 _ _ _ bt
    have d1 := cell_of_row wr (w.heap.size + 1) 1 _ _ _ bu
    have HXX := Lib.hid (X1.out.trans HX.out (fun _ h => h.elim))
    clear bt bu
    by_cases hlt : k < cs.length
    · obtain ⟨x, hx⟩ : ∃ x, cs[k]? = some x := ⟨_, List.getElem?_eq_getElem hlt⟩
      obtain ⟨b, o, rfl, _, _, p0, p1, p2, p3⟩ := ColsAt.col (w := wr) rfl (RowAt.quiet HV.out HXX.out) hx
      obtain ⟨b3, o3, rfl, _, _, q0, q1, q2, q3⟩ := ColsAt.col (w := wr) rfl (RowAt.quiet HU.out HXX.out) hx
      clear hx
      go_wp2
      go_quiet (fail)
      go_wp2
      go_roundw
      case rel => exact ⟨k + 1, by omega, by go_num, Lib.hid (HX.out.drewN _)⟩
      case measure => simp [intOf]; omega
    · go_wp2
      go_ret
      exact ⟨rfl, HXX.out⟩
end Go.Proofs.Ytpiijcjbphpffaa
