/-
  The parser's not: NOT, comparisons, IS NULL, IS NOT NULL. No condition beyond each lemma's own.
-/
import Derived.Test.YtnbckfkdmkbopaaGreatDoorTH09
set_option autoImplicit false
namespace Go.Proofs.YtnbckfkdmkbopaaGreatDoor
open Go Go.RowKit

def notP (self g3 : Ptree) : Ptree := fun ts =>
  match nextT 1 sNOT ts with
  | some r => unP 4 self r
  | none =>
    match g3 ts with
    | none => none
    | some (x, ts') => notTail g3 x ts'
theorem opsCmp_at : ∀ j : Fin 6, (opsCmp[j.val]?).map (·.2) = some (10 + (j.val : Int)) := by decide
theorem opsCmp_at' {j : Nat} (hj : j < 6) : ∃ s, opsCmp[j]? = some (s, 10 + (j : Int)) := by
  have := opsCmp_at ⟨j, hj⟩
  obtain ⟨⟨s, o⟩, h1, h2⟩ := Option.map_eq_some_iff.1 this
  simp only at h2
  exact ⟨s, by rw [h1, h2]⟩
/-- a tree with two kids, made -/
theorem bin_at {w w' : World} {F : Nat → Prop} {b T : Nat} {k : Int} {x y : Ex} {E D : ExF} (hT : T = 29) (hb : w.heap[b]? = some (.cells #[.int .i64 E.k, .int .i64 E.vk, .int .i64 E.vn, sv E.vs, sv E.t, sv E.n, .int .i64 E.s, .slice E.ao E.m E.c, .int .i64 D.k, .int .i64 D.vk, .int .i64 D.vn, sv D.vs, sv D.t, sv D.n, .int .i64 D.s, .slice D.ao D.m D.c] T (0, 0))) (hF : F b) (hx : ExAt w F x E) (hy : ExAt w F y D) (hc : Chg NoB w w') :
    ExAt w' F (.bin k x y) ⟨k, 0, 0, [], [], [], 0, some ⟨b, 0, none⟩, 2, 2⟩ := by
  subst hT
  exact ⟨b, 2, E, D, rfl, Nat.lt_of_lt_of_le (lt_of_heap hb) hc.size, hF, range_block (hc.heap hb (fun h => h)), hx.quiet hc, hy.quiet hc⟩
set_option maxRecDepth 100000 in
set_option maxHeartbeats 4000000 in
theorem not_w (self g3 : Ptree) (N p tb : Nat) (hp10 : 10 ≤ p)
    (hp : ∀ ts w, ts.length + 1 ≤ N → PAt w p tb ts → Glob w → Calls Tryz.prog 167 #[.pointer (some ⟨p, 0, none⟩)] w (POut (self ts) p tb w))
    (h3 : ∀ ts w, ts.length ≤ N → PAt w p tb ts → Glob w → Calls Tryz.prog 177 #[.pointer (some ⟨p, 0, none⟩)] w (POut (g3 ts) p tb w)) (hlen : ∀ ts x r, g3 ts = some (x, r) → r.length ≤ ts.length)
    (ts : List Tok) (w : World) (hN : ts.length ≤ N) (h : PAt w p tb ts) (hg : Glob w) : Calls Tryz.prog 167 #[.pointer (some ⟨p, 0, none⟩)] w (POut (notP self g3 ts) p tb w) := by
  have hpl := h.lt
  have htl := h.tl
  have X0 : Chg NoB w _ := (Chg.refl NoB w).alloc (ExF.obj ⟨0, 0, 0, [], [], [], 0, none, 0, 0⟩)
  have hg0 := hg
  have H := Lib.hid (h.quiet X0)
  have HG := Lib.hid (hg.quiet X0)
  have HP := Lib.hid hp
  have H3 := Lib.hid h3
  have HLen := Lib.hid hlen
  clear h hg hp h3 hlen X0
  obtain ⟨q, hq⟩ : ∃ q, nextT 1 sNOT ts = q := ⟨_, rfl⟩
  rcases q with _ | r
  · have HQ := Lib.hid hq
    clear hq
    go_enter Tryz.func167, Tryz.ntmps167
    go_wp2_with (go_at_call 102; refine (pword_no H.out HQ.out).mono ?_; rintro e w' ⟨rfl, rfl⟩)
    refine (H3.out ts _ hN H.out HG.out).mono ?_
    intro e w1 ho
    have X1 : Hid (Chg (OneP p) w w1) := Lib.hid (((Chg.refl (OneP p) w).alloc _).trans ho.1 (fun _ h => .inl h))
    have Z1 : Hid (w1.heap[w.heap.size]? = some (ExF.obj ⟨0, 0, 0, [], [], [], 0, none, 0, 0⟩)) := Lib.hid (ho.1.heap hal_new (by unfold OneP; omega))
    obtain ⟨q, hq⟩ : ∃ q, g3 ts = q := ⟨_, rfl⟩
    rw [hq] at ho
    rcases q with _ | ⟨x, r⟩
    · obtain ⟨_, rfl⟩ := ho
      exact ⟨rfl, POut.no (by unfold notP; rw [HQ.out]; simp only; rw [hq]) X1.out⟩
    · obtain ⟨_, E, rfl, hx, hpar⟩ := ho
      have HN : Hid (notP self g3 ts = notTail g3 x r) := Lib.hid (by unfold notP; rw [HQ.out]; simp only; rw [hq])
      have hrl := HLen.out _ _ _ hq
      have hz1 := lt_of_heap Z1.out
      have XA : Chg NoB w1 ((w1.alloc (ExF.obj E)).alloc (.cells (List.map (fun x => sv x.1) opsCmp).toArray 9)) := ((Chg.refl NoB w1).alloc _).alloc _
      have HX : Hid (ExAt ((w1.alloc (ExF.obj E)).alloc (.cells (List.map (fun x => sv x.1) opsCmp).toArray 9)) (fun q => w.heap.size < q ∧ q < w1.heap.size) x E) := Lib.hid ((hx.mono fun q h h2 => (show w.heap.size < q ∧ q < w1.heap.size from ⟨by simp at h; omega, h2⟩)).quiet XA)
      have PA := Lib.hid (hpar.quiet XA)
      have XA0 : Hid (Chg (OneP p) w ((w1.alloc (ExF.obj E)).alloc (.cells (List.map (fun x => sv x.1) opsCmp).toArray 9))) := Lib.hid (X1.out.trans XA (fun _ h => h.elim))
      have ZA : Hid (((w1.alloc (ExF.obj E)).alloc (.cells (List.map (fun x => sv x.1) opsCmp).toArray 9)).heap[w.heap.size]? = some (ExF.obj ⟨0, 0, 0, [], [], [], 0, none, 0, 0⟩)) := Lib.hid (XA.heap Z1.out (fun h => h))
      have BE : Hid (((w1.alloc (ExF.obj E)).alloc (.cells (List.map (fun x => sv x.1) opsCmp).toArray 9)).heap[w1.heap.size]? = some (ExF.obj E)) := Lib.hid ((hal_old (by simp)).trans hal_new)
      have BS : Hid (((w1.alloc (ExF.obj E)).alloc (.cells (List.map (fun x => sv x.1) opsCmp).toArray 9)).heap[w1.heap.size + 1]? = some (.cells (List.map (fun x => sv x.1) opsCmp).toArray 9 (0, 0))) := Lib.hid (hal_new' (by simp))
      clear hq hx hpar XA
      go_wp2
      generalize hW : World.alloc (w1.alloc _) _ = W
      have hW' : (w1.alloc (ExF.obj E)).alloc (.cells (List.map (fun x => sv x.1) opsCmp).toArray 9) = W := hW
      rw [hW'] at HX PA XA0 ZA BE BS
      clear hW hW'
      have HG0 := Lib.hid hg0
      clear hg0
      go_loop [16] (fun i => ∃ j : Nat, j ≤ 6 ∧ i = .int .i64 j ∧ Hid (pick 5 opsCmp r = pick 5 (opsCmp.drop j) r)) (fun i => 6 - (intOf i).toNat)
      case atStart => exact ⟨0, by omega, rfl, Lib.hid rfl⟩
      case round =>
        obtain ⟨j, hj, rfl, HJ⟩ := hrel
        by_cases hlt : j < 6
        · obtain ⟨s, hso⟩ := opsCmp_at' hlt
          have hd : opsCmp.drop j = (s, 10 + (j : Int)) :: opsCmp.drop (j + 1) := by
            obtain ⟨hj', e⟩ := List.getElem?_eq_some_iff.1 hso
            rw [List.drop_eq_getElem_cons hj', e]
          have cs : W.cell? ⟨w1.heap.size + 1, j, none⟩ = some (sv s) := by
            have := cell_of_row W _ j _ _ _ BS.out
            rw [this]; simp [hso]
          have HDD := Lib.hid hd
          clear hso hd
          obtain ⟨q2, hq2⟩ : ∃ q2, nextT 5 s r = q2 := ⟨_, rfl⟩
          rcases q2 with _ | r3
          · have HQ2 := Lib.hid hq2
            clear hq2
            go_wp2_with (go_at_call 39; refine (sign_no PA.out HQ2.out).mono ?_; rintro e w' ⟨rfl, rfl⟩)
            go_round
            case rel => exact ⟨j + 1, by omega, by go_num, Lib.hid (by rw [HJ.out, HDD.out, pick_cons_no HQ2.out])⟩
            case measure => simp [intOf]; omega
          · have HQ2 := Lib.hid hq2
            clear hq2
            have HPI : Hid (pick 5 opsCmp r = some (10 + (j : Int), r3)) := Lib.hid (by rw [HJ.out, HDD.out, pick_cons_yes HQ2.out])
            go_wp2_with fail
            refine (sign_yes PA.out HQ2.out).mono ?_
            rintro e w2 ⟨rfl, HH⟩
            go_wp2
            have X2 : Hid (Chg (OneP p) w w2) := Lib.hid (XA0.out.trans HH.out.2 (fun _ h => .inl h))
            have B2 : Hid (w2.heap[w1.heap.size]? = some (ExF.obj E)) := Lib.hid (HH.out.2.heap BE.out (by unfold OneP; omega))
            have hpx : ¬ w1.heap.size = p := by omega
            have HS : Hid (∀ V, Chg (OneP p) w2 V → ExCells V w1.heap.size E) := Lib.hid fun V hV => ExCells.of (hV.heap B2.out hpx)
            have hwr : IntKind.i64.wrap (10 + (j : Int)) = 10 + (j : Int) := IntWalk.i64_in _ (by omega)
            refine wp_region_lexU (fun V => ExCells V w1.heap.size E) [7] [4, 5, 6, 7] [0, 1, 2, 3, 4, 5, 6, 7] (by kernel_rfl) (by kernel_rfl) (HS.out _ (Chg.refl _ _).drew) ?_
            iterate 4
              refine' lexU_free (v := _) rfl rfl rfl ?_ (fun _ _ _ h => h) ?_
              rotate_left
              · rintro W ⟨e0, e1, e2, e3, e4, e5, e6, e7⟩
                go_simp
                with_reducible rfl
              try simp only [Act.put, List.setIfInBounds_toArray, List.set_cons_zero, List.set_cons_succ]
            clear hwr
            refine lexU_op rfl rfl rfl (fun K hK => ?_)
            go_simp
            have hr3 : r3.length ≤ N := by have := nextT_len HQ2.out; omega
            refine (H3.out r3 _ hr3 (HH.out.1.quiet (Chg.refl _ _).drew) (X2.out.drew.glob hp10 HG0.out)).mono ?_
            intro e w3 ho
            obtain ⟨q3, hq3⟩ : ∃ q3, g3 r3 = q3 := ⟨_, rfl⟩
            rw [hq3] at ho
            have X3 : Hid (Chg (OneP p) w2 w3) := Lib.hid ((Chg.refl (OneP p) w2).drew.trans ho.1 (fun _ h => .inl h))
            have X30 : Hid (Chg (OneP p) w w3) := Lib.hid (X2.out.trans X3.out (fun _ h => .inl h))
            rcases q3 with _ | ⟨y, r4⟩
            · obtain ⟨_, rfl⟩ := ho
              exact ⟨rfl, POut.no (by rw [HN.out]; unfold notTail; rw [HPI.out]; simp only; rw [hq3]) X30.out⟩
            · obtain ⟨_, E4, rfl, hy, hpar4⟩ := ho
              have HF : Hid (notP self g3 ts = some (.bin (10 + (j : Int)) x y, r4)) := Lib.hid (by rw [HN.out]; unfold notTail; rw [HPI.out]; simp only; rw [hq3])
              have hzw2 := X2.out.size
              have hzw3 := X3.out.size
              have hzb := lt_of_heap B2.out
              have TY := Lib.hid (hy.mono fun q h _ => (show w.heap.size < q from by simp at h; omega))
              have PR4 := Lib.hid hpar4
              clear hq3 hy hpar4
              refine hK _ _ (fun _ => HS.out w3 X3.out) ?_
              clear hK K
              try simp only [Act.put, List.setIfInBounds_toArray, List.set_cons_zero, List.set_cons_succ]
              refine lexU_op rfl rfl rfl (fun K hK => ?_)
              go_simp
              have XB : Hid (Chg NoB w3 (w3.alloc (.cells #[.int .i64 E.k, .int .i64 E.vk, .int .i64 E.vn, sv E.vs, sv E.t, sv E.n, .int .i64 E.s, .slice E.ao E.m E.c, .int .i64 E4.k, .int .i64 E4.vk, .int .i64 E4.vn, sv E4.vs, sv E4.t, sv E4.n, .int .i64 E4.s, .slice E4.ao E4.m E4.c] 29))) := Lib.hid ((Chg.refl _ _).alloc _)
              refine hK _ _ (fun _ => HS.out _ (X3.out.trans XB.out (fun _ h => h.elim))) ?_
              clear hK K
              try simp only [Act.put, List.setIfInBounds_toArray, List.set_cons_zero, List.set_cons_succ]
              refine lexU_op rfl rfl rfl (fun K hK => ?_)
              go_simp
              refine (node_any _ _ _ _ _).mono ?_
              rintro e w5 ⟨rfl, x5⟩
              have TX3 := ExAt.chg X3.out (fun q h e => by unfold OneP at e; omega) _ _ (ExAt.chg HH.out.2 (fun q h e => by unfold OneP at e; omega) _ _ HX.out)
              have T5 : Hid (ExAt w5 (fun q => w.heap.size < q) (.bin (10 + (j : Int)) x y) ⟨10 + (j : Int), 0, 0, [], [], [], 0, some ⟨w3.heap.size, 0, none⟩, 2, 2⟩) := Lib.hid (bin_at rfl hal_new (by omega) (((TX3.mono fun q h _ => (show w.heap.size < q from h.1))).quiet XB.out) (TY.out.quiet XB.out) x5)
              have X5 : Hid (Chg NoB w3 w5) := Lib.hid (XB.out.trans x5 (fun _ h => h.elim))
              have X50 : Hid (Chg (OneP p) w w5) := Lib.hid (X30.out.trans X5.out (fun _ h => h.elim))
              have Z5 : Hid (w5.heap[w.heap.size]? = some (ExF.obj ⟨0, 0, 0, [], [], [], 0, none, 0, 0⟩)) := Lib.hid (X5.out.heap (X3.out.heap (HH.out.2.heap ZA.out (by unfold OneP; omega)) (by unfold OneP; omega)) (fun h => h))
              have P5 := Lib.hid (PR4.out.quiet X5.out)
              refine hK _ _ (fun _ => HS.out _ (X3.out.trans X5.out (fun _ h => h.elim))) ?_
              clear hK K
              try simp only [Act.put, List.setIfInBounds_toArray, List.set_cons_zero, List.set_cons_succ]
              clear x5 TX3
              obtain ⟨z0, z1, z2, z3, z4, z5, z6, z7⟩ := ExCells.of Z5.out
              have fz : ∀ o, w5.frozen? ⟨w.heap.size, o, none⟩ = false := fun o => frozen_of_row w5 _ o _ _ Z5.out
              refine lexU_op rfl rfl rfl (fun K hK => ?_)
              go_simp
              refine hK _ _ (fun h => by cases h) ?_
              clear hK K
              try simp only [Act.put, List.setIfInBounds_toArray, List.set_cons_zero, List.set_cons_succ]
              refine lexU_nil ?_
              go_wp2
              exact pout_ret (E := ⟨10 + (j : Int), 0, 0, [], [], [], 0, some ⟨w3.heap.size, 0, none⟩, 2, 2⟩) rfl rfl HF.out X50.out Z5.out T5.out P5.out hpl htl
        · have HPK : Hid (pick 5 opsCmp r = none) := Lib.hid (by rw [HJ.out, List.drop_of_length_le (by have : opsCmp.length = 6 := rfl; omega)]; rfl)
          obtain ⟨q2, hq2⟩ : ∃ q2, nextT 1 sIS r = q2 := ⟨_, rfl⟩
          rcases q2 with _ | r1
          · have HQ2 := Lib.hid hq2
            clear hq2
            have HF : Hid (notP self g3 ts = some (x, r)) := Lib.hid (by rw [HN.out]; unfold notTail; rw [HPK.out]; simp only; rw [HQ2.out])
            obtain ⟨z0, z1, z2, z3, z4, z5, z6, z7⟩ := ExCells.of ZA.out
            have fz : ∀ o, W.frozen? ⟨w.heap.size, o, none⟩ = false := fun o => frozen_of_row W _ o _ _ ZA.out
            obtain ⟨y0, y1, y2, y3, y4, y5, y6, y7⟩ := ExCells.of BE.out
            go_wp2_with (go_at_call 102; refine (pword_no PA.out HQ2.out).mono ?_; rintro e w' ⟨rfl, rfl⟩)
            exact pout_ret (E := E) rfl rfl HF.out XA0.out ZA.out (HX.out.mono fun q h _ => h.1) PA.out hpl htl
          · have HQ2 := Lib.hid hq2
            clear hq2
            go_wp2_with (go_at_call 102; refine (pword_yes PA.out HQ2.out).mono ?_; rintro e w4 ⟨rfl, HS4⟩)
            have X4 : Hid (Chg (OneP p) w w4) := Lib.hid (XA0.out.trans HS4.out.2 (fun _ h => .inl h))
            have Z4 : Hid (w4.heap[w.heap.size]? = some (ExF.obj ⟨0, 0, 0, [], [], [], 0, none, 0, 0⟩)) := Lib.hid (HS4.out.2.heap ZA.out (by unfold OneP; omega))
            have B4 : Hid (w4.heap[w1.heap.size]? = some (ExF.obj E)) := Lib.hid (HS4.out.2.heap BE.out (by unfold OneP; omega))
            have HX4 := Lib.hid (ExAt.chg HS4.out.2 (fun q h e => by unfold OneP at e; omega) _ _ HX.out)
            obtain ⟨q3, hq3⟩ : ∃ q3, nextT 1 sNOT r1 = q3 := ⟨_, rfl⟩
            rcases q3 with _ | r2
            · have HQ3 := Lib.hid hq3
              clear hq3
              go_wp2_with (go_at_call 102; refine (pword_no HS4.out.1 HQ3.out).mono ?_; rintro e w' ⟨rfl, rfl⟩)
              obtain ⟨qn, hqn⟩ : ∃ qn, nextT 1 sNULL r1 = qn := ⟨_, rfl⟩
              rcases qn with _ | r2
              · have HQN := Lib.hid hqn
                clear hqn
                have HF : Hid (notP self g3 ts = none) := Lib.hid (by rw [HN.out]; unfold notTail; rw [HPK.out]; simp only; rw [HQ2.out]; simp only; rw [HQ3.out]; simp only; rw [HQN.out])
                go_wp2_with (go_at_call 106; refine (words_no (.inl rfl) HS4.out.1 (X4.out.glob hp10 HG0.out) HQN.out).mono ?_; rintro e w6 ⟨rfl, xn⟩)
                exact ⟨rfl, POut.no HF.out (X4.out.trans xn (fun _ h => h.elim))⟩
              · have HQN := Lib.hid hqn
                clear hqn
                have HF : Hid (notP self g3 ts = some (.un 18 x, r2)) := Lib.hid (by rw [HN.out]; unfold notTail; rw [HPK.out]; simp only; rw [HQ2.out]; simp only; rw [HQ3.out]; simp only; rw [HQN.out])
                go_wp2_with fail
                refine (words_yes (.inl rfl) HS4.out.1 (X4.out.glob hp10 HG0.out) HQN.out).mono ?_
                rintro e w6 ⟨rfl, HSn⟩
                have Xn : Hid (Chg (OneP p) w w6) := Lib.hid (X4.out.trans HSn.out.2 (fun _ h => .inl h))
                have Zn : Hid (w6.heap[w.heap.size]? = some (ExF.obj ⟨0, 0, 0, [], [], [], 0, none, 0, 0⟩)) := Lib.hid (HSn.out.2.heap Z4.out (by unfold OneP; omega))
                have Bn : Hid (w6.heap[w1.heap.size]? = some (ExF.obj E)) := Lib.hid (HSn.out.2.heap B4.out (by unfold OneP; omega))
                have HX' := Lib.hid (ExAt.chg HSn.out.2 (fun q h e => by unfold OneP at e; omega) _ _ HX4.out)
                have HPar := Lib.hid HSn.out.1
                clear HX
                have HX := HX'
                clear HX'
                obtain ⟨y0, y1, y2, y3, y4, y5, y6, y7⟩ := ExCells.of Bn.out
                have hzz := lt_of_heap Zn.out
                go_wp2_with fail
                refine (node_any _ _ _ _ _).mono ?_
                rintro e w3 ⟨rfl, x3⟩
                have T3 : Hid (ExAt w3 (fun q => w.heap.size < q) (.un 18 x) ⟨18, 0, 0, [], [], [], 0, some ⟨w6.heap.size, 0, none⟩, 1, 1⟩) := Lib.hid (un_at rfl hal_new (by omega) ((HX.out.mono fun q h _ => (show w.heap.size < q from by first | omega | (simp at h; omega))).quiet ((Chg.refl _ _).alloc _)) x3)
                have x3' := ((Chg.refl NoB w6).alloc (.cells #[.int .i64 E.k, .int .i64 E.vk, .int .i64 E.vn, sv E.vs, sv E.t, sv E.n, .int .i64 E.s, .slice E.ao E.m E.c] 29)).trans x3 (fun _ h => h.elim)
                have X3 : Hid (Chg (OneP p) w w3) := Lib.hid (Xn.out.trans x3' (fun _ h => h.elim))
                have Z3 : Hid (w3.heap[w.heap.size]? = some (ExF.obj ⟨0, 0, 0, [], [], [], 0, none, 0, 0⟩)) := Lib.hid (x3'.heap Zn.out (fun h => h))
                have P3 := Lib.hid (HPar.out.quiet x3')
                clear x3 x3'
                obtain ⟨z0, z1, z2, z3, z4, z5, z6, z7⟩ := ExCells.of Z3.out
                have fz : ∀ o, w3.frozen? ⟨w.heap.size, o, none⟩ = false := fun o => frozen_of_row w3 _ o _ _ Z3.out
                go_wp2
                exact pout_ret (E := ⟨18, 0, 0, [], [], [], 0, some ⟨w6.heap.size, 0, none⟩, 1, 1⟩) rfl rfl HF.out X3.out Z3.out T3.out P3.out hpl htl
            · have HQ3 := Lib.hid hq3
              clear hq3
              go_wp2_with (go_at_call 102; refine (pword_yes HS4.out.1 HQ3.out).mono ?_; rintro e w5 ⟨rfl, HS5⟩)
              have X5 : Hid (Chg (OneP p) w w5) := Lib.hid (X4.out.trans HS5.out.2 (fun _ h => .inl h))
              have Z5 : Hid (w5.heap[w.heap.size]? = some (ExF.obj ⟨0, 0, 0, [], [], [], 0, none, 0, 0⟩)) := Lib.hid (HS5.out.2.heap Z4.out (by unfold OneP; omega))
              have B5 : Hid (w5.heap[w1.heap.size]? = some (ExF.obj E)) := Lib.hid (HS5.out.2.heap B4.out (by unfold OneP; omega))
              have HX5 := Lib.hid (ExAt.chg HS5.out.2 (fun q h e => by unfold OneP at e; omega) _ _ HX4.out)
              obtain ⟨qn, hqn⟩ : ∃ qn, nextT 1 sNULL r2 = qn := ⟨_, rfl⟩
              rcases qn with _ | r3
              · have HQN := Lib.hid hqn
                clear hqn
                have HF : Hid (notP self g3 ts = none) := Lib.hid (by rw [HN.out]; unfold notTail; rw [HPK.out]; simp only; rw [HQ2.out]; simp only; rw [HQ3.out]; simp only; rw [HQN.out])
                go_wp2_with (go_at_call 106; refine (words_no (.inl rfl) HS5.out.1 (X5.out.glob hp10 HG0.out) HQN.out).mono ?_; rintro e w6 ⟨rfl, xn⟩)
                exact ⟨rfl, POut.no HF.out (X5.out.trans xn (fun _ h => h.elim))⟩
              · have HQN := Lib.hid hqn
                clear hqn
                have HF : Hid (notP self g3 ts = some (.un 19 x, r3)) := Lib.hid (by rw [HN.out]; unfold notTail; rw [HPK.out]; simp only; rw [HQ2.out]; simp only; rw [HQ3.out]; simp only; rw [HQN.out])
                go_wp2_with fail
                refine (words_yes (.inl rfl) HS5.out.1 (X5.out.glob hp10 HG0.out) HQN.out).mono ?_
                rintro e w6 ⟨rfl, HSn⟩
                have Xn : Hid (Chg (OneP p) w w6) := Lib.hid (X5.out.trans HSn.out.2 (fun _ h => .inl h))
                have Zn : Hid (w6.heap[w.heap.size]? = some (ExF.obj ⟨0, 0, 0, [], [], [], 0, none, 0, 0⟩)) := Lib.hid (HSn.out.2.heap Z5.out (by unfold OneP; omega))
                have Bn : Hid (w6.heap[w1.heap.size]? = some (ExF.obj E)) := Lib.hid (HSn.out.2.heap B5.out (by unfold OneP; omega))
                have HX' := Lib.hid (ExAt.chg HSn.out.2 (fun q h e => by unfold OneP at e; omega) _ _ HX5.out)
                have HPar := Lib.hid HSn.out.1
                clear HX
                have HX := HX'
                clear HX'
                obtain ⟨y0, y1, y2, y3, y4, y5, y6, y7⟩ := ExCells.of Bn.out
                have hzz := lt_of_heap Zn.out
                go_wp2_with fail
                refine (node_any _ _ _ _ _).mono ?_
                rintro e w3 ⟨rfl, x3⟩
                have T3 : Hid (ExAt w3 (fun q => w.heap.size < q) (.un 19 x) ⟨19, 0, 0, [], [], [], 0, some ⟨w6.heap.size, 0, none⟩, 1, 1⟩) := Lib.hid (un_at rfl hal_new (by omega) ((HX.out.mono fun q h _ => (show w.heap.size < q from by first | omega | (simp at h; omega))).quiet ((Chg.refl _ _).alloc _)) x3)
                have x3' := ((Chg.refl NoB w6).alloc (.cells #[.int .i64 E.k, .int .i64 E.vk, .int .i64 E.vn, sv E.vs, sv E.t, sv E.n, .int .i64 E.s, .slice E.ao E.m E.c] 29)).trans x3 (fun _ h => h.elim)
                have X3 : Hid (Chg (OneP p) w w3) := Lib.hid (Xn.out.trans x3' (fun _ h => h.elim))
                have Z3 : Hid (w3.heap[w.heap.size]? = some (ExF.obj ⟨0, 0, 0, [], [], [], 0, none, 0, 0⟩)) := Lib.hid (x3'.heap Zn.out (fun h => h))
                have P3 := Lib.hid (HPar.out.quiet x3')
                clear x3 x3'
                obtain ⟨z0, z1, z2, z3, z4, z5, z6, z7⟩ := ExCells.of Z3.out
                have fz : ∀ o, w3.frozen? ⟨w.heap.size, o, none⟩ = false := fun o => frozen_of_row w3 _ o _ _ Z3.out
                go_wp2
                exact pout_ret (E := ⟨19, 0, 0, [], [], [], 0, some ⟨w6.heap.size, 0, none⟩, 1, 1⟩) rfl rfl HF.out X3.out Z3.out T3.out P3.out hpl htl
  · have HQ := Lib.hid hq
    have hrl := nextT_len hq
    clear hq
    clear hg0
    go_enter Tryz.func167, Tryz.ntmps167
    go_wp2_with (go_at_call 102; refine (pword_yes H.out HQ.out).mono ?_; rintro e w1 ⟨rfl, HS⟩)
    have C1 : Hid (Chg (OneP p) w w1) := Lib.hid (((Chg.refl (OneP p) w).alloc _).trans HS.out.2 (fun _ h => .inl h))
    have Y1 : Hid (w1.heap[w.heap.size]? = some (ExF.obj ⟨0, 0, 0, [], [], [], 0, none, 0, 0⟩)) := Lib.hid (HS.out.2.heap hal_new (by unfold OneP; omega))
    refine (HP.out r _ (by omega) HS.out.1 (HS.out.2.glob hp10 HG.out)).mono ?_
    intro e w2 ho
    have X2 : Hid (Chg (OneP p) w w2) := Lib.hid (C1.out.trans ho.1 (fun _ h => .inl h))
    have Z2 : Hid (w2.heap[w.heap.size]? = some (ExF.obj ⟨0, 0, 0, [], [], [], 0, none, 0, 0⟩)) := Lib.hid (ho.1.heap Y1.out (by unfold OneP; omega))
    obtain ⟨q, hq⟩ : ∃ q, self r = q := ⟨_, rfl⟩
    rw [hq] at ho
    rcases q with _ | ⟨x, r2⟩
    · obtain ⟨_, rfl⟩ := ho
      exact ⟨rfl, POut.no (by unfold notP; rw [HQ.out]; simp only [unP]; rw [hq]) X2.out⟩
    · obtain ⟨_, E, rfl, hx, hpar⟩ := ho
      have HF : Hid (notP self g3 ts = some (.un 4 x, r2)) := Lib.hid (by unfold notP; rw [HQ.out]; simp only [unP]; rw [hq])
      have hz1 := lt_of_heap Y1.out
      have HX := Lib.hid hx
      have HPar := Lib.hid hpar
      clear hq hx hpar
      have hzz := lt_of_heap Z2.out
      go_wp2_with fail
      refine (node_any _ _ _ _ _).mono ?_
      rintro e w3 ⟨rfl, x3⟩
      have T3 : Hid (ExAt w3 (fun q => w.heap.size < q) (.un 4 x) ⟨4, 0, 0, [], [], [], 0, some ⟨w2.heap.size, 0, none⟩, 1, 1⟩) := Lib.hid (un_at rfl hal_new (by omega) ((HX.out.mono fun q h _ => (show w.heap.size < q from by first | omega | (simp at h; omega))).quiet ((Chg.refl _ _).alloc _)) x3)
      have x3' := ((Chg.refl NoB w2).alloc (.cells #[.int .i64 E.k, .int .i64 E.vk, .int .i64 E.vn, sv E.vs, sv E.t, sv E.n, .int .i64 E.s, .slice E.ao E.m E.c] 29)).trans x3 (fun _ h => h.elim)
      have X3 : Hid (Chg (OneP p) w w3) := Lib.hid (X2.out.trans x3' (fun _ h => h.elim))
      have Z3 : Hid (w3.heap[w.heap.size]? = some (ExF.obj ⟨0, 0, 0, [], [], [], 0, none, 0, 0⟩)) := Lib.hid (x3'.heap Z2.out (fun h => h))
      have P3 := Lib.hid (HPar.out.quiet x3')
      clear x3 x3'
      obtain ⟨z0, z1, z2, z3, z4, z5, z6, z7⟩ := ExCells.of Z3.out
      have fz : ∀ o, w3.frozen? ⟨w.heap.size, o, none⟩ = false := fun o => frozen_of_row w3 _ o _ _ Z3.out
      go_wp2
      exact pout_ret (E := ⟨4, 0, 0, [], [], [], 0, some ⟨w2.heap.size, 0, none⟩, 1, 1⟩) rfl rfl HF.out X3.out Z3.out T3.out P3.out hpl htl
end Go.Proofs.YtnbckfkdmkbopaaGreatDoor
