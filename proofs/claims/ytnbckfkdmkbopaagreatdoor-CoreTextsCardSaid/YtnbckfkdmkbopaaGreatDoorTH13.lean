/-
  The parser's keyword: SUM, MIN, MAX. No condition beyond each lemma's own.
-/
import Derived.Test.YtnbckfkdmkbopaaGreatDoorTH12
set_option autoImplicit false
namespace Go.Proofs.YtnbckfkdmkbopaaGreatDoor
open Go Go.RowKit

theorem op_insert {P : Program} {o : Oper} {a : Act} {w w' : World} {K : Act → World → Prop} {Q : Exit → Act → World → Prop} {T : TypeId} {x y z : Operand} {v0 v1 v2 : Value} (ho : o.op = .insert T x y z) (hr : (Instr.mapUpdate T v0 v1 v2).run P w = .ok () w') (h : K (a.put o.dst undef) w') (e0 : a.eval x = v0 := by rfl) (e1 : a.eval y = v1 := by rfl) (e2 : a.eval z = v2 := by rfl) : o.wp P a w K Q := by
  unfold Oper.wp execOp
  simp only [ho, e0, e1, e2, Sem.run_bind, hr, Result.andThen_ok, Sem.run_pure]
  exact h
theorem op_lookup {P : Program} {o : Oper} {a : Act} {w w' : World} {K : Act → World → Prop} {Q : Exit → Act → World → Prop} {T : TypeId} {x y : Operand} {b : Bool} {v0 v1 v : Value} (ho : o.op = .lookup T x y b) (hr : (Instr.lookup T v0 v1 b).run P w = .ok v w') (h : K (a.put o.dst v) w') (e0 : a.eval x = v0 := by rfl) (e1 : a.eval y = v1 := by rfl) : o.wp P a w K Q := by
  unfold Oper.wp execOp
  simp only [ho, e0, e1, Sem.run_bind, hr, Result.andThen_ok, Sem.run_pure]
  exact h
attribute [local go_sem ↓] field_tok1 in
set_option maxRecDepth 100000 in
set_option maxHeartbeats 4000000 in
theorem keyword_sum (g : Ptree) (N p tb : Nat) (hp10 : 10 ≤ p)
    (hp : ∀ ts w, ts.length ≤ N → PAt w p tb ts → Glob w → Calls Tryz.prog 111 #[.pointer (some ⟨p, 0, none⟩)] w (POut (g ts) p tb w))
    (tn : Int) (r : List Tok) (w : World) (hN : r.length ≤ N + 1) (h : PAt w p tb (⟨1, sSUM, tn⟩ :: r)) (hg : Glob w) : Calls Tryz.prog 185 #[.pointer (some ⟨p, 0, none⟩)] w (POut (keyP g sSUM r) p tb w) := by
  have hpl := h.lt
  have htl := h.tl
  have X0 : Chg NoB w _ := (Chg.refl NoB w).alloc (ExF.obj ⟨0, 0, 0, [], [], [], 0, none, 0, 0⟩)
  have H := Lib.hid (h.quiet X0)
  have HG := Lib.hid hg
  have HP := Lib.hid hp
  have HT : Hid (takeT 1 (⟨1, sSUM, tn⟩ :: r) = some (⟨1, sSUM, tn⟩, r)) := Lib.hid (by simp [takeT])
  clear h hg hp X0
  obtain ⟨q1, hq1⟩ : ∃ q1, nextT 5 [40] r = q1 := ⟨_, rfl⟩
  have HQ1 := Lib.hid hq1
  clear hq1
  go_enter Tryz.func185, Tryz.ntmps185
  go_wp2_with fail
  refine (take_yes H.out HT.out).mono ?_
  rintro e w1 ⟨rfl, HS⟩
  have X1 : Hid (Chg (OneP p) w w1) := Lib.hid (((Chg.refl (OneP p) w).alloc _).trans HS.out.2 (fun _ h => .inl h))
  have Z1 : Hid (w1.heap[w.heap.size]? = some (ExF.obj ⟨0, 0, 0, [], [], [], 0, none, 0, 0⟩)) := Lib.hid (HS.out.2.heap hal_new (by unfold OneP; omega))
  rcases q1 with _ | r1
  · go_wp2_with fail
    refine (sign_no HS.out.1 HQ1.out).mono ?_
    rintro e w' ⟨rfl, rfl⟩
    go_wp2_with fail
    refine (must_false _ _).mono ?_
    rintro e w' ⟨rfl, rfl⟩
    exact ⟨rfl, POut.no (by unfold keyP; simp only [sSUM, sTRUE, sFALSE, sNULL, aggr, sCOUNT, sSUM, sMIN, sMAX]; simp [HQ1.out]) X1.out⟩
  · have hr1 := nextT_len HQ1.out
    go_wp2_with fail
    refine (sign_yes HS.out.1 HQ1.out).mono ?_
    rintro e w2 ⟨rfl, HS2⟩
    have X2 : Hid (Chg (OneP p) w w2) := Lib.hid (X1.out.trans HS2.out.2 (fun _ h => .inl h))
    have Z2 : Hid (w2.heap[w.heap.size]? = some (ExF.obj ⟨0, 0, 0, [], [], [], 0, none, 0, 0⟩)) := Lib.hid (HS2.out.2.heap Z1.out (by unfold OneP; omega))
    have hz2 := lt_of_heap Z2.out
    have XB : Chg NoB w2 _ := (Chg.refl NoB w2).alloc (ExF.obj ⟨20, 0, 0, [], [], [], 0, none, 0, 0⟩)
    have P3 := Lib.hid (HS2.out.1.quiet XB)
    have X3 : Hid (Chg (OneP p) w (w2.alloc (ExF.obj ⟨20, 0, 0, [], [], [], 0, none, 0, 0⟩))) := Lib.hid (X2.out.trans XB (fun _ h => h.elim))
    have Z3 : Hid ((w2.alloc (ExF.obj ⟨20, 0, 0, [], [], [], 0, none, 0, 0⟩)).heap[w.heap.size]? = some (ExF.obj ⟨0, 0, 0, [], [], [], 0, none, 0, 0⟩)) := Lib.hid (XB.heap Z2.out (fun h => h))
    have B3 : Hid ((w2.alloc (ExF.obj ⟨20, 0, 0, [], [], [], 0, none, 0, 0⟩)).heap[w2.heap.size]? = some (ExF.obj ⟨20, 0, 0, [], [], [], 0, none, 0, 0⟩)) := Lib.hid hal_new
    clear XB
    go_wp2_with fail
    refine (must_true _ _).mono ?_
    rintro e w' ⟨rfl, rfl⟩
    go_upto_region 16 with fail
    generalize hW : w2.alloc _ = W
    have hW' : w2.alloc (ExF.obj ⟨20, 0, 0, [], [], [], 0, none, 0, 0⟩) = W := hW
    rw [hW'] at P3 X3 Z3 B3
    clear hW hW'
    generalize hA : Act.mk _ _ = A
    refine wp_region_inv (by kernel_rfl) (by kernel_rfl) (fun L a w' => ∃ m38 m39 m40 m41 m42 m43 m44 m45, a = (((((((A.put (some 38) m38).put (some 39) m39).put (some 40) m40).put (some 41) m41).put (some 42) m42).put (some 43) m43).put (some 44) m44).put (some 45) m45 ∧ Hid (AggI g p tb w2.heap.size w sSUM 21 r1 L m38 m39 m40 m41 m42 m43 m44 m45 w')) ?_ ?_ ?_
    · subst hA
      exact ⟨undef, undef, undef, undef, undef, undef, undef, undef, (by simp only [Act.put, List.setIfInBounds_toArray, List.set_cons_zero, List.set_cons_succ]), Lib.hid ⟨X3.out.drew, Z3.out, fun _ => B3.out, (fun h => by cases h), (fun h => by cases h), (fun h => by cases h), (fun h => by cases h), (fun h => by cases h), fun _ => P3.out.quiet (Chg.refl _ _).drew, (fun h => by cases h)⟩⟩
    · intro L a w9 hall hI
      obtain ⟨m38, m39, m40, m41, m42, m43, m44, m45, rfl, HI⟩ := hI
      subst hA
      have hF := HI.out.fin hall
      obtain ⟨x, r2, E, hg2, hpar, hx, hbx⟩ := hF
      have HG2 := Lib.hid hg2
      have P9 := Lib.hid hpar
      have T9 := Lib.hid hx
      have B9 := Lib.hid hbx
      have X9 := Lib.hid HI.out.chg
      have Z9 := Lib.hid HI.out.zero
      clear hall HI hg2 hpar hx hbx
      try simp only [Act.put, List.setIfInBounds_toArray, List.set_cons_zero, List.set_cons_succ]
      obtain ⟨q9, hq9⟩ : ∃ q9, nextT 5 [41] r2 = q9 := ⟨_, rfl⟩
      have HQ9 := Lib.hid hq9
      clear hq9
      have HK9 : Hid (keyP g sSUM r = closeP (.un 21 x) r2) := Lib.hid (by unfold keyP; simp only [sSUM, sTRUE, sFALSE, sNULL, aggr, sCOUNT, sSUM, sMIN, sMAX]; simp [HQ1.out, HG2.out])
      rcases q9 with _ | r9
      · go_wp2_with fail
        refine (sign_no P9.out HQ9.out).mono ?_
        rintro e w' ⟨rfl, rfl⟩
        go_wp2_with fail
        refine (must_false _ _).mono ?_
        rintro e w' ⟨rfl, rfl⟩
        exact ⟨rfl, POut.no (by rw [HK9.out]; unfold closeP; rw [HQ9.out]) X9.out⟩
      · have HF : Hid (keyP g sSUM r = some ((.un 21 x), r9)) := Lib.hid (by rw [HK9.out]; unfold closeP; rw [HQ9.out])
        go_wp2_with fail
        refine (sign_yes P9.out HQ9.out).mono ?_
        rintro e w10 ⟨rfl, HS10⟩
        have X10 : Hid (Chg (OneP p) w w10) := Lib.hid (X9.out.trans HS10.out.2 (fun _ h => .inl h))
        have Z10 : Hid (w10.heap[w.heap.size]? = some (ExF.obj ⟨0, 0, 0, [], [], [], 0, none, 0, 0⟩)) := Lib.hid (HS10.out.2.heap Z9.out (by unfold OneP; omega))
        have B10 : Hid (w10.heap[w2.heap.size]? = some (ExF.obj E)) := Lib.hid (HS10.out.2.heap B9.out (by unfold OneP; omega))
        have T10 : Hid (ExAt w10 (fun q => w.heap.size < q) (.un 21 x) E) := Lib.hid ((ExAt.chg HS10.out.2 (fun q h e => by unfold OneP at e; omega) _ _ T9.out).mono fun q h _ => h.1)
        go_wp2_with fail
        refine (must_true _ _).mono ?_
        rintro e w' ⟨rfl, rfl⟩
        obtain ⟨y0, y1, y2, y3, y4, y5, y6, y7⟩ := ExCells.of B10.out
        obtain ⟨z0, z1, z2, z3, z4, z5, z6, z7⟩ := ExCells.of Z10.out
        have fz : ∀ o, w10.frozen? ⟨w.heap.size, o, none⟩ = false := fun o => frozen_of_row w10 _ o _ _ Z10.out
        go_wp2
        exact pout_ret (E := E) rfl rfl HF.out X10.out Z10.out T10.out HS10.out.1 hpl htl
    · intro L i a w' hi hL hd hcl hI
      obtain ⟨m38, m39, m40, m41, m42, m43, m44, m45, rfl, HI⟩ := hI
      subst hA
      have hi : i < 13 := hi
      rcases (show i = 0 ∨ i = 1 ∨ i = 2 ∨ i = 3 ∨ i = 4 ∨ i = 5 ∨ i = 6 ∨ i = 7 ∨ i = 8 ∨ i = 9 ∨ i = 10 ∨ i = 11 ∨ i = 12 by omega) with rfl | rfl | rfl | rfl | rfl | rfl | rfl | rfl | rfl | rfl | rfl | rfl | rfl
      · refine inv_op rfl rfl (fun K hK => ?_)
        try simp only [Act.put, List.setIfInBounds_toArray, List.set_cons_zero, List.set_cons_succ]
        have hmm := @run_makeMap Tryz.prog
        go_simp
        have hn : ∀ j, 0 < j → j < 6 → L j = false := fun j h0 h6 => by
          cases e : L j with
          | false => rfl
          | true =>
            have : L 0 = true := hcl j e 0 (by rcases (show j = 1 ∨ j = 2 ∨ j = 3 ∨ j = 4 ∨ j = 5 by omega) with rfl | rfl | rfl | rfl | rfl <;> decide)
            rw [hL] at this; cases this
        have hn12 : L 12 = false := by
          cases e : L 12 with
          | false => rfl
          | true =>
            have : L 0 = true := hcl 12 e 0 (by decide)
            rw [hL] at this; cases this
        exact hK _ _ ⟨_, m39, m40, m41, m42, m43, m44, m45, (by simp only [Act.put, List.setIfInBounds_toArray, List.set_cons_zero, List.set_cons_succ]), Lib.hid (HI.out.s0 hpl hz2 (lt_of_heap (HI.out.box hn12)) hn)⟩
      · have d0 : L 0 = true := hd 0 (by decide)
        have h5 : L 5 = false := by
          cases e : L 5 with
          | false => rfl
          | true =>
            have : L 1 = true := hcl 5 e 1 (by decide)
            rw [hL] at this; cases this
        have hm0 := HI.out.m0 d0
        obtain ⟨mb, es, c, rfl, hmb, h1, h2, h3, h4⟩ := hm0
        have HP1 := Lib.hid (HI.out.put htl (i := 1) (s := sCOUNT) (v := 20) rfl hmb h1 h2 h3 h4 h5)
        have hmu := run_mapUpdate (P := Tryz.prog) w' (t := 271) (kt := 9) (et := 3) (d := .string) (k := sv sCOUNT) (v := .int .i64 20) Tryz.underlying271 Tryz.underlying9 (by trivial) hmb h4.keys
        refine inv_op rfl rfl (fun K hK => ?_)
        try simp only [Act.put, List.setIfInBounds_toArray, List.set_cons_zero, List.set_cons_succ]
        refine op_insert rfl hmu ?_
        exact hK _ _ ⟨_, m39, m40, m41, m42, m43, m44, m45, (by simp only [Act.put, List.setIfInBounds_toArray, List.set_cons_zero, List.set_cons_succ]), HP1⟩
      · have d0 : L 0 = true := hd 0 (by decide)
        have h5 : L 5 = false := by
          cases e : L 5 with
          | false => rfl
          | true =>
            have : L 2 = true := hcl 5 e 2 (by decide)
            rw [hL] at this; cases this
        have hm0 := HI.out.m0 d0
        obtain ⟨mb, es, c, rfl, hmb, h1, h2, h3, h4⟩ := hm0
        have HP1 := Lib.hid (HI.out.put htl (i := 2) (s := sSUM) (v := 21) rfl hmb h1 h2 h3 h4 h5)
        have hmu := run_mapUpdate (P := Tryz.prog) w' (t := 271) (kt := 9) (et := 3) (d := .string) (k := sv sSUM) (v := .int .i64 21) Tryz.underlying271 Tryz.underlying9 (by trivial) hmb h4.keys
        refine inv_op rfl rfl (fun K hK => ?_)
        try simp only [Act.put, List.setIfInBounds_toArray, List.set_cons_zero, List.set_cons_succ]
        refine op_insert rfl hmu ?_
        exact hK _ _ ⟨_, m39, m40, m41, m42, m43, m44, m45, (by simp only [Act.put, List.setIfInBounds_toArray, List.set_cons_zero, List.set_cons_succ]), HP1⟩
      · have d0 : L 0 = true := hd 0 (by decide)
        have h5 : L 5 = false := by
          cases e : L 5 with
          | false => rfl
          | true =>
            have : L 3 = true := hcl 5 e 3 (by decide)
            rw [hL] at this; cases this
        have hm0 := HI.out.m0 d0
        obtain ⟨mb, es, c, rfl, hmb, h1, h2, h3, h4⟩ := hm0
        have HP1 := Lib.hid (HI.out.put htl (i := 3) (s := sMIN) (v := 22) rfl hmb h1 h2 h3 h4 h5)
        have hmu := run_mapUpdate (P := Tryz.prog) w' (t := 271) (kt := 9) (et := 3) (d := .string) (k := sv sMIN) (v := .int .i64 22) Tryz.underlying271 Tryz.underlying9 (by trivial) hmb h4.keys
        refine inv_op rfl rfl (fun K hK => ?_)
        try simp only [Act.put, List.setIfInBounds_toArray, List.set_cons_zero, List.set_cons_succ]
        refine op_insert rfl hmu ?_
        exact hK _ _ ⟨_, m39, m40, m41, m42, m43, m44, m45, (by simp only [Act.put, List.setIfInBounds_toArray, List.set_cons_zero, List.set_cons_succ]), HP1⟩
      · have d0 : L 0 = true := hd 0 (by decide)
        have h5 : L 5 = false := by
          cases e : L 5 with
          | false => rfl
          | true =>
            have : L 4 = true := hcl 5 e 4 (by decide)
            rw [hL] at this; cases this
        have hm0 := HI.out.m0 d0
        obtain ⟨mb, es, c, rfl, hmb, h1, h2, h3, h4⟩ := hm0
        have HP1 := Lib.hid (HI.out.put htl (i := 4) (s := sMAX) (v := 23) rfl hmb h1 h2 h3 h4 h5)
        have hmu := run_mapUpdate (P := Tryz.prog) w' (t := 271) (kt := 9) (et := 3) (d := .string) (k := sv sMAX) (v := .int .i64 23) Tryz.underlying271 Tryz.underlying9 (by trivial) hmb h4.keys
        refine inv_op rfl rfl (fun K hK => ?_)
        try simp only [Act.put, List.setIfInBounds_toArray, List.set_cons_zero, List.set_cons_succ]
        refine op_insert rfl hmu ?_
        exact hK _ _ ⟨_, m39, m40, m41, m42, m43, m44, m45, (by simp only [Act.put, List.setIfInBounds_toArray, List.set_cons_zero, List.set_cons_succ]), HP1⟩
      · refine inv_op rfl rfl (fun K hK => ?_)
        try simp only [Act.put, List.setIfInBounds_toArray, List.set_cons_zero, List.set_cons_succ]
        go_simp
        exact hK _ _ ⟨m38, m38, m40, m41, m42, m43, m44, m45, (by simp only [Act.put, List.setIfInBounds_toArray, List.set_cons_zero, List.set_cons_succ]), Lib.hid (HI.out.flag (i := 5) (by decide) (by decide) (fun _ => rfl) (fun h => HI.out.m6 (by simpa [did] using h)) (fun h => HI.out.m7 (by simpa [did] using h)) (fun h => HI.out.m8 (by simpa [did] using h)))⟩
      · refine inv_op rfl rfl (fun K hK => ?_)
        try simp only [Act.put, List.setIfInBounds_toArray, List.set_cons_zero, List.set_cons_succ]
        go_simp
        exact hK _ _ ⟨m38, m39, sv sSUM, m41, m42, m43, m44, m45, (by simp only [Act.put, List.setIfInBounds_toArray, List.set_cons_zero, List.set_cons_succ]), Lib.hid (HI.out.flag (i := 6) (by decide) (by decide) (fun h => HI.out.m5 (by simpa [did] using h)) (fun _ => rfl) (fun h => HI.out.m7 (by simpa [did] using h)) (fun h => HI.out.m8 (by simpa [did] using h)))⟩
      · have d5 : L 5 = true := hd 5 (by decide)
        have d6 : L 6 = true := hd 6 (by decide)
        have d0 : L 0 = true := hcl 5 d5 0 (by decide)
        have dj : L 2 = true := hcl 5 d5 2 (by decide)
        have hff := HI.out.found d5 d6 d0 (j := 2) rfl dj
        obtain ⟨mb, es, c, rfl, rfl, hmb, hkt, hfd⟩ := hff
        have hlk := run_lookup (P := Tryz.prog) w' (t := 271) (kt := 9) (et := 3) (d := .string) (k := sv sSUM) (z := .int .i64 0) Tryz.underlying271 Tryz.underlying9 (by trivial) hmb hkt (fun w => by kernel_rfl) false
        rw [hfd] at hlk
        simp only [Option.getD_some, Bool.false_eq_true, if_false] at hlk
        have HI7 := Lib.hid (HI.out.flag (i := 7) (by decide) (by decide) (n39 := .map (some mb)) (n40 := sv sSUM) (n41 := .int .i64 21) (n42 := m42) (fun h => HI.out.m5 (by simpa [did] using h)) (fun _ => rfl) (fun _ => rfl) (fun h => HI.out.m8 (by simpa [did] using h)))
        clear hmb hkt hfd
        refine inv_op rfl rfl (fun K hK => ?_)
        try simp only [Act.put, List.setIfInBounds_toArray, List.set_cons_zero, List.set_cons_succ]
        refine op_lookup rfl hlk ?_
        exact hK _ _ ⟨m38, .map (some mb), sv sSUM, .int .i64 21, m42, m43, m44, m45, (by simp only [Act.put, List.setIfInBounds_toArray, List.set_cons_zero, List.set_cons_succ]), HI7⟩
      · refine inv_op rfl rfl (fun K hK => ?_)
        try simp only [Act.put, List.setIfInBounds_toArray, List.set_cons_zero, List.set_cons_succ]
        go_simp
        exact hK _ _ ⟨m38, m39, m40, m41, .pointer (some ⟨p, 0, none⟩), m43, m44, m45, (by simp only [Act.put, List.setIfInBounds_toArray, List.set_cons_zero, List.set_cons_succ]), Lib.hid (HI.out.flag (i := 8) (by decide) (by decide) (fun h => HI.out.m5 (by simpa [did] using h)) (fun h => HI.out.m6 (by simpa [did] using h)) (fun h => HI.out.m7 (by simpa [did] using h)) (fun _ => rfl))⟩
      · have d8 : L 8 = true := hd 8 (by decide)
        have e8 := HI.out.m8 d8
        subst e8
        have hnot : ∀ j, j = 10 ∨ j = 11 ∨ j = 12 → L j = false := fun j hj => by
          cases e : L j with
          | false => rfl
          | true =>
            have : L 9 = true := hcl j e 9 (by rcases hj with rfl | rfl | rfl <;> decide)
            rw [hL] at this; cases this
        refine inv_op rfl rfl (fun K hK => ?_)
        try simp only [Act.put, List.setIfInBounds_toArray, List.set_cons_zero, List.set_cons_succ]
        go_simp
        refine (HP.out r1 _ (by omega) (HI.out.p1 hL) (HI.out.chg.glob hp10 HG.out)).mono ?_
        intro e w5 ho
        obtain ⟨q, hq⟩ : ∃ q, g r1 = q := ⟨_, rfl⟩
        rw [hq] at ho
        rcases q with _ | ⟨x, r2⟩
        · obtain ⟨hc5, rfl⟩ := ho
          exact ⟨rfl, POut.no (by unfold keyP; simp only [sSUM, sTRUE, sFALSE, sNULL, aggr, sCOUNT, sSUM, sMIN, sMAX]; simp [HQ1.out, hq]) (HI.out.chg.trans hc5 (fun _ h => .inl h))⟩
        · obtain ⟨hc5, E, rfl, hx, hpar⟩ := ho
          exact hK _ _ ⟨m38, m39, m40, m41, _, ExF.val E, m44, m45, (by simp only [Act.put, List.setIfInBounds_toArray, List.set_cons_zero, List.set_cons_succ]), Lib.hid (HI.out.s9 hpl hz2 (hnot 12 (by simp)) (hnot 10 (by simp)) hq hc5 hx hpar)⟩
      · have d9 : L 9 = true := hd 9 (by decide)
        have h11 : L 11 = false := by
          cases e : L 11 with
          | false => rfl
          | true =>
            have : L 10 = true := hcl 11 e 10 (by decide)
            rw [hL] at this; cases this
        have h12 : L 12 = false := by
          cases e : L 12 with
          | false => rfl
          | true =>
            have : L 10 = true := hcl 12 e 10 (by decide)
            rw [hL] at this; cases this
        have e43 : ∃ E, m43 = ExF.val E := by obtain ⟨_, _, E, _, e, _⟩ := HI.out.p2 d9; exact ⟨E, e⟩
        obtain ⟨E, rfl⟩ := e43
        refine inv_op rfl rfl (fun K hK => ?_)
        try simp only [Act.put, List.setIfInBounds_toArray, List.set_cons_zero, List.set_cons_succ]
        go_simp
        exact hK _ _ ⟨m38, m39, m40, m41, m42, _, _, m45, (by simp only [Act.put, List.setIfInBounds_toArray, List.set_cons_zero, List.set_cons_succ]), Lib.hid (HI.out.s10 hpl hz2 d9 h11 h12)⟩
      · have d7 : L 7 = true := hd 7 (by decide)
        have d10 : L 10 = true := hd 10 (by decide)
        have d9 : L 9 = true := hcl 10 d10 9 (by decide)
        have h12 : L 12 = false := by
          cases e : L 12 with
          | false => rfl
          | true =>
            have : L 11 = true := hcl 12 e 11 (by decide)
            rw [hL] at this; cases this
        have e44 : ∃ nb, m44 = .slice (some ⟨nb, 0, none⟩) 1 1 := by
          obtain ⟨_, _, _, _, _, _, _, h⟩ := HI.out.p2 d9
          obtain ⟨nb, h1, _⟩ := h d10
          exact ⟨nb, h1⟩
        obtain ⟨nb, rfl⟩ := e44
        have e41 := HI.out.m7 d7
        subst e41
        refine inv_op rfl rfl (fun K hK => ?_)
        try simp only [Act.put, List.setIfInBounds_toArray, List.set_cons_zero, List.set_cons_succ]
        go_simp
        refine (node_any _ _ _ _ _).mono ?_
        rintro e w5 ⟨rfl, x5⟩
        exact hK _ _ ⟨m38, m39, m40, _, m42, m43, _, _, (by simp only [Act.put, List.setIfInBounds_toArray, List.set_cons_zero, List.set_cons_succ]), Lib.hid (HI.out.s11 rfl h12 x5)⟩
      · have d11 : L 11 = true := hd 11 (by decide)
        have d10 : L 10 = true := hcl 11 d11 10 (by decide)
        have d9 : L 9 = true := hcl 10 d10 9 (by decide)
        have e44 : ∃ nb, m44 = .slice (some ⟨nb, 0, none⟩) 1 1 ∧ m45 = ExF.val ⟨21, 0, 0, [], [], [], 0, some ⟨nb, 0, none⟩, 1, 1⟩ := by
          obtain ⟨_, _, _, _, _, _, _, h⟩ := HI.out.p2 d9
          obtain ⟨nb, h1, _, _, _, _, h2, _⟩ := h d10
          exact ⟨nb, h1, h2 d11⟩
        obtain ⟨nb, rfl, rfl⟩ := e44
        have hbx := HI.out.box hL
        obtain ⟨z0, z1, z2, z3, z4, z5, z6, z7⟩ := ExCells.of hbx
        have fz : ∀ o, w'.frozen? ⟨w2.heap.size, o, none⟩ = false := fun o => frozen_of_row w' _ o _ _ hbx
        have HBX := Lib.hid hbx
        clear hbx
        refine inv_op rfl rfl (fun K hK => ?_)
        try simp only [Act.put, List.setIfInBounds_toArray, List.set_cons_zero, List.set_cons_succ]
        go_simp
        exact hK _ _ ⟨m38, m39, m40, m41, m42, m43, _, _, (by simp only [Act.put, List.setIfInBounds_toArray, List.set_cons_zero, List.set_cons_succ]), Lib.hid (HI.out.s12 rfl hL hpl htl hz2 (chg_set8 (Chg.refl (OneP w2.heap.size) w') (.inl rfl) _ _ _ _ _ _ _ _) (ex_set HBX.out ⟨21, 0, 0, [], [], [], 0, some ⟨nb, 0, none⟩, 1, 1⟩))⟩
attribute [local go_sem ↓] field_tok1 in
set_option maxRecDepth 100000 in
set_option maxHeartbeats 4000000 in
theorem keyword_min (g : Ptree) (N p tb : Nat) (hp10 : 10 ≤ p)
    (hp : ∀ ts w, ts.length ≤ N → PAt w p tb ts → Glob w → Calls Tryz.prog 111 #[.pointer (some ⟨p, 0, none⟩)] w (POut (g ts) p tb w))
    (tn : Int) (r : List Tok) (w : World) (hN : r.length ≤ N + 1) (h : PAt w p tb (⟨1, sMIN, tn⟩ :: r)) (hg : Glob w) : Calls Tryz.prog 185 #[.pointer (some ⟨p, 0, none⟩)] w (POut (keyP g sMIN r) p tb w) := by
  have hpl := h.lt
  have htl := h.tl
  have X0 : Chg NoB w _ := (Chg.refl NoB w).alloc (ExF.obj ⟨0, 0, 0, [], [], [], 0, none, 0, 0⟩)
  have H := Lib.hid (h.quiet X0)
  have HG := Lib.hid hg
  have HP := Lib.hid hp
  have HT : Hid (takeT 1 (⟨1, sMIN, tn⟩ :: r) = some (⟨1, sMIN, tn⟩, r)) := Lib.hid (by simp [takeT])
  clear h hg hp X0
  obtain ⟨q1, hq1⟩ : ∃ q1, nextT 5 [40] r = q1 := ⟨_, rfl⟩
  have HQ1 := Lib.hid hq1
  clear hq1
  go_enter Tryz.func185, Tryz.ntmps185
  go_wp2_with fail
  refine (take_yes H.out HT.out).mono ?_
  rintro e w1 ⟨rfl, HS⟩
  have X1 : Hid (Chg (OneP p) w w1) := Lib.hid (((Chg.refl (OneP p) w).alloc _).trans HS.out.2 (fun _ h => .inl h))
  have Z1 : Hid (w1.heap[w.heap.size]? = some (ExF.obj ⟨0, 0, 0, [], [], [], 0, none, 0, 0⟩)) := Lib.hid (HS.out.2.heap hal_new (by unfold OneP; omega))
  rcases q1 with _ | r1
  · go_wp2_with fail
    refine (sign_no HS.out.1 HQ1.out).mono ?_
    rintro e w' ⟨rfl, rfl⟩
    go_wp2_with fail
    refine (must_false _ _).mono ?_
    rintro e w' ⟨rfl, rfl⟩
    exact ⟨rfl, POut.no (by unfold keyP; simp only [sMIN, sTRUE, sFALSE, sNULL, aggr, sCOUNT, sSUM, sMIN, sMAX]; simp [HQ1.out]) X1.out⟩
  · have hr1 := nextT_len HQ1.out
    go_wp2_with fail
    refine (sign_yes HS.out.1 HQ1.out).mono ?_
    rintro e w2 ⟨rfl, HS2⟩
    have X2 : Hid (Chg (OneP p) w w2) := Lib.hid (X1.out.trans HS2.out.2 (fun _ h => .inl h))
    have Z2 : Hid (w2.heap[w.heap.size]? = some (ExF.obj ⟨0, 0, 0, [], [], [], 0, none, 0, 0⟩)) := Lib.hid (HS2.out.2.heap Z1.out (by unfold OneP; omega))
    have hz2 := lt_of_heap Z2.out
    have XB : Chg NoB w2 _ := (Chg.refl NoB w2).alloc (ExF.obj ⟨20, 0, 0, [], [], [], 0, none, 0, 0⟩)
    have P3 := Lib.hid (HS2.out.1.quiet XB)
    have X3 : Hid (Chg (OneP p) w (w2.alloc (ExF.obj ⟨20, 0, 0, [], [], [], 0, none, 0, 0⟩))) := Lib.hid (X2.out.trans XB (fun _ h => h.elim))
    have Z3 : Hid ((w2.alloc (ExF.obj ⟨20, 0, 0, [], [], [], 0, none, 0, 0⟩)).heap[w.heap.size]? = some (ExF.obj ⟨0, 0, 0, [], [], [], 0, none, 0, 0⟩)) := Lib.hid (XB.heap Z2.out (fun h => h))
    have B3 : Hid ((w2.alloc (ExF.obj ⟨20, 0, 0, [], [], [], 0, none, 0, 0⟩)).heap[w2.heap.size]? = some (ExF.obj ⟨20, 0, 0, [], [], [], 0, none, 0, 0⟩)) := Lib.hid hal_new
    clear XB
    go_wp2_with fail
    refine (must_true _ _).mono ?_
    rintro e w' ⟨rfl, rfl⟩
    go_upto_region 16 with fail
    generalize hW : w2.alloc _ = W
    have hW' : w2.alloc (ExF.obj ⟨20, 0, 0, [], [], [], 0, none, 0, 0⟩) = W := hW
    rw [hW'] at P3 X3 Z3 B3
    clear hW hW'
    generalize hA : Act.mk _ _ = A
    refine wp_region_inv (by kernel_rfl) (by kernel_rfl) (fun L a w' => ∃ m38 m39 m40 m41 m42 m43 m44 m45, a = (((((((A.put (some 38) m38).put (some 39) m39).put (some 40) m40).put (some 41) m41).put (some 42) m42).put (some 43) m43).put (some 44) m44).put (some 45) m45 ∧ Hid (AggI g p tb w2.heap.size w sMIN 22 r1 L m38 m39 m40 m41 m42 m43 m44 m45 w')) ?_ ?_ ?_
    · subst hA
      exact ⟨undef, undef, undef, undef, undef, undef, undef, undef, (by simp only [Act.put, List.setIfInBounds_toArray, List.set_cons_zero, List.set_cons_succ]), Lib.hid ⟨X3.out.drew, Z3.out, fun _ => B3.out, (fun h => by cases h), (fun h => by cases h), (fun h => by cases h), (fun h => by cases h), (fun h => by cases h), fun _ => P3.out.quiet (Chg.refl _ _).drew, (fun h => by cases h)⟩⟩
    · intro L a w9 hall hI
      obtain ⟨m38, m39, m40, m41, m42, m43, m44, m45, rfl, HI⟩ := hI
      subst hA
      have hF := HI.out.fin hall
      obtain ⟨x, r2, E, hg2, hpar, hx, hbx⟩ := hF
      have HG2 := Lib.hid hg2
      have P9 := Lib.hid hpar
      have T9 := Lib.hid hx
      have B9 := Lib.hid hbx
      have X9 := Lib.hid HI.out.chg
      have Z9 := Lib.hid HI.out.zero
      clear hall HI hg2 hpar hx hbx
      try simp only [Act.put, List.setIfInBounds_toArray, List.set_cons_zero, List.set_cons_succ]
      obtain ⟨q9, hq9⟩ : ∃ q9, nextT 5 [41] r2 = q9 := ⟨_, rfl⟩
      have HQ9 := Lib.hid hq9
      clear hq9
      have HK9 : Hid (keyP g sMIN r = closeP (.un 22 x) r2) := Lib.hid (by unfold keyP; simp only [sMIN, sTRUE, sFALSE, sNULL, aggr, sCOUNT, sSUM, sMIN, sMAX]; simp [HQ1.out, HG2.out])
      rcases q9 with _ | r9
      · go_wp2_with fail
        refine (sign_no P9.out HQ9.out).mono ?_
        rintro e w' ⟨rfl, rfl⟩
        go_wp2_with fail
        refine (must_false _ _).mono ?_
        rintro e w' ⟨rfl, rfl⟩
        exact ⟨rfl, POut.no (by rw [HK9.out]; unfold closeP; rw [HQ9.out]) X9.out⟩
      · have HF : Hid (keyP g sMIN r = some ((.un 22 x), r9)) := Lib.hid (by rw [HK9.out]; unfold closeP; rw [HQ9.out])
        go_wp2_with fail
        refine (sign_yes P9.out HQ9.out).mono ?_
        rintro e w10 ⟨rfl, HS10⟩
        have X10 : Hid (Chg (OneP p) w w10) := Lib.hid (X9.out.trans HS10.out.2 (fun _ h => .inl h))
        have Z10 : Hid (w10.heap[w.heap.size]? = some (ExF.obj ⟨0, 0, 0, [], [], [], 0, none, 0, 0⟩)) := Lib.hid (HS10.out.2.heap Z9.out (by unfold OneP; omega))
        have B10 : Hid (w10.heap[w2.heap.size]? = some (ExF.obj E)) := Lib.hid (HS10.out.2.heap B9.out (by unfold OneP; omega))
        have T10 : Hid (ExAt w10 (fun q => w.heap.size < q) (.un 22 x) E) := Lib.hid ((ExAt.chg HS10.out.2 (fun q h e => by unfold OneP at e; omega) _ _ T9.out).mono fun q h _ => h.1)
        go_wp2_with fail
        refine (must_true _ _).mono ?_
        rintro e w' ⟨rfl, rfl⟩
        obtain ⟨y0, y1, y2, y3, y4, y5, y6, y7⟩ := ExCells.of B10.out
        obtain ⟨z0, z1, z2, z3, z4, z5, z6, z7⟩ := ExCells.of Z10.out
        have fz : ∀ o, w10.frozen? ⟨w.heap.size, o, none⟩ = false := fun o => frozen_of_row w10 _ o _ _ Z10.out
        go_wp2
        exact pout_ret (E := E) rfl rfl HF.out X10.out Z10.out T10.out HS10.out.1 hpl htl
    · intro L i a w' hi hL hd hcl hI
      obtain ⟨m38, m39, m40, m41, m42, m43, m44, m45, rfl, HI⟩ := hI
      subst hA
      have hi : i < 13 := hi
      rcases (show i = 0 ∨ i = 1 ∨ i = 2 ∨ i = 3 ∨ i = 4 ∨ i = 5 ∨ i = 6 ∨ i = 7 ∨ i = 8 ∨ i = 9 ∨ i = 10 ∨ i = 11 ∨ i = 12 by omega) with rfl | rfl | rfl | rfl | rfl | rfl | rfl | rfl | rfl | rfl | rfl | rfl | rfl
      · refine inv_op rfl rfl (fun K hK => ?_)
        try simp only [Act.put, List.setIfInBounds_toArray, List.set_cons_zero, List.set_cons_succ]
        have hmm := @run_makeMap Tryz.prog
        go_simp
        have hn : ∀ j, 0 < j → j < 6 → L j = false := fun j h0 h6 => by
          cases e : L j with
          | false => rfl
          | true =>
            have : L 0 = true := hcl j e 0 (by rcases (show j = 1 ∨ j = 2 ∨ j = 3 ∨ j = 4 ∨ j = 5 by omega) with rfl | rfl | rfl | rfl | rfl <;> decide)
            rw [hL] at this; cases this
        have hn12 : L 12 = false := by
          cases e : L 12 with
          | false => rfl
          | true =>
            have : L 0 = true := hcl 12 e 0 (by decide)
            rw [hL] at this; cases this
        exact hK _ _ ⟨_, m39, m40, m41, m42, m43, m44, m45, (by simp only [Act.put, List.setIfInBounds_toArray, List.set_cons_zero, List.set_cons_succ]), Lib.hid (HI.out.s0 hpl hz2 (lt_of_heap (HI.out.box hn12)) hn)⟩
      · have d0 : L 0 = true := hd 0 (by decide)
        have h5 : L 5 = false := by
          cases e : L 5 with
          | false => rfl
          | true =>
            have : L 1 = true := hcl 5 e 1 (by decide)
            rw [hL] at this; cases this
        have hm0 := HI.out.m0 d0
        obtain ⟨mb, es, c, rfl, hmb, h1, h2, h3, h4⟩ := hm0
        have HP1 := Lib.hid (HI.out.put htl (i := 1) (s := sCOUNT) (v := 20) rfl hmb h1 h2 h3 h4 h5)
        have hmu := run_mapUpdate (P := Tryz.prog) w' (t := 271) (kt := 9) (et := 3) (d := .string) (k := sv sCOUNT) (v := .int .i64 20) Tryz.underlying271 Tryz.underlying9 (by trivial) hmb h4.keys
        refine inv_op rfl rfl (fun K hK => ?_)
        try simp only [Act.put, List.setIfInBounds_toArray, List.set_cons_zero, List.set_cons_succ]
        refine op_insert rfl hmu ?_
        exact hK _ _ ⟨_, m39, m40, m41, m42, m43, m44, m45, (by simp only [Act.put, List.setIfInBounds_toArray, List.set_cons_zero, List.set_cons_succ]), HP1⟩
      · have d0 : L 0 = true := hd 0 (by decide)
        have h5 : L 5 = false := by
          cases e : L 5 with
          | false => rfl
          | true =>
            have : L 2 = true := hcl 5 e 2 (by decide)
            rw [hL] at this; cases this
        have hm0 := HI.out.m0 d0
        obtain ⟨mb, es, c, rfl, hmb, h1, h2, h3, h4⟩ := hm0
        have HP1 := Lib.hid (HI.out.put htl (i := 2) (s := sSUM) (v := 21) rfl hmb h1 h2 h3 h4 h5)
        have hmu := run_mapUpdate (P := Tryz.prog) w' (t := 271) (kt := 9) (et := 3) (d := .string) (k := sv sSUM) (v := .int .i64 21) Tryz.underlying271 Tryz.underlying9 (by trivial) hmb h4.keys
        refine inv_op rfl rfl (fun K hK => ?_)
        try simp only [Act.put, List.setIfInBounds_toArray, List.set_cons_zero, List.set_cons_succ]
        refine op_insert rfl hmu ?_
        exact hK _ _ ⟨_, m39, m40, m41, m42, m43, m44, m45, (by simp only [Act.put, List.setIfInBounds_toArray, List.set_cons_zero, List.set_cons_succ]), HP1⟩
      · have d0 : L 0 = true := hd 0 (by decide)
        have h5 : L 5 = false := by
          cases e : L 5 with
          | false => rfl
          | true =>
            have : L 3 = true := hcl 5 e 3 (by decide)
            rw [hL] at this; cases this
        have hm0 := HI.out.m0 d0
        obtain ⟨mb, es, c, rfl, hmb, h1, h2, h3, h4⟩ := hm0
        have HP1 := Lib.hid (HI.out.put htl (i := 3) (s := sMIN) (v := 22) rfl hmb h1 h2 h3 h4 h5)
        have hmu := run_mapUpdate (P := Tryz.prog) w' (t := 271) (kt := 9) (et := 3) (d := .string) (k := sv sMIN) (v := .int .i64 22) Tryz.underlying271 Tryz.underlying9 (by trivial) hmb h4.keys
        refine inv_op rfl rfl (fun K hK => ?_)
        try simp only [Act.put, List.setIfInBounds_toArray, List.set_cons_zero, List.set_cons_succ]
        refine op_insert rfl hmu ?_
        exact hK _ _ ⟨_, m39, m40, m41, m42, m43, m44, m45, (by simp only [Act.put, List.setIfInBounds_toArray, List.set_cons_zero, List.set_cons_succ]), HP1⟩
      · have d0 : L 0 = true := hd 0 (by decide)
        have h5 : L 5 = false := by
          cases e : L 5 with
          | false => rfl
          | true =>
            have : L 4 = true := hcl 5 e 4 (by decide)
            rw [hL] at this; cases this
        have hm0 := HI.out.m0 d0
        obtain ⟨mb, es, c, rfl, hmb, h1, h2, h3, h4⟩ := hm0
        have HP1 := Lib.hid (HI.out.put htl (i := 4) (s := sMAX) (v := 23) rfl hmb h1 h2 h3 h4 h5)
        have hmu := run_mapUpdate (P := Tryz.prog) w' (t := 271) (kt := 9) (et := 3) (d := .string) (k := sv sMAX) (v := .int .i64 23) Tryz.underlying271 Tryz.underlying9 (by trivial) hmb h4.keys
        refine inv_op rfl rfl (fun K hK => ?_)
        try simp only [Act.put, List.setIfInBounds_toArray, List.set_cons_zero, List.set_cons_succ]
        refine op_insert rfl hmu ?_
        exact hK _ _ ⟨_, m39, m40, m41, m42, m43, m44, m45, (by simp only [Act.put, List.setIfInBounds_toArray, List.set_cons_zero, List.set_cons_succ]), HP1⟩
      · refine inv_op rfl rfl (fun K hK => ?_)
        try simp only [Act.put, List.setIfInBounds_toArray, List.set_cons_zero, List.set_cons_succ]
        go_simp
        exact hK _ _ ⟨m38, m38, m40, m41, m42, m43, m44, m45, (by simp only [Act.put, List.setIfInBounds_toArray, List.set_cons_zero, List.set_cons_succ]), Lib.hid (HI.out.flag (i := 5) (by decide) (by decide) (fun _ => rfl) (fun h => HI.out.m6 (by simpa [did] using h)) (fun h => HI.out.m7 (by simpa [did] using h)) (fun h => HI.out.m8 (by simpa [did] using h)))⟩
      · refine inv_op rfl rfl (fun K hK => ?_)
        try simp only [Act.put, List.setIfInBounds_toArray, List.set_cons_zero, List.set_cons_succ]
        go_simp
        exact hK _ _ ⟨m38, m39, sv sMIN, m41, m42, m43, m44, m45, (by simp only [Act.put, List.setIfInBounds_toArray, List.set_cons_zero, List.set_cons_succ]), Lib.hid (HI.out.flag (i := 6) (by decide) (by decide) (fun h => HI.out.m5 (by simpa [did] using h)) (fun _ => rfl) (fun h => HI.out.m7 (by simpa [did] using h)) (fun h => HI.out.m8 (by simpa [did] using h)))⟩
      · have d5 : L 5 = true := hd 5 (by decide)
        have d6 : L 6 = true := hd 6 (by decide)
        have d0 : L 0 = true := hcl 5 d5 0 (by decide)
        have dj : L 3 = true := hcl 5 d5 3 (by decide)
        have hff := HI.out.found d5 d6 d0 (j := 3) rfl dj
        obtain ⟨mb, es, c, rfl, rfl, hmb, hkt, hfd⟩ := hff
        have hlk := run_lookup (P := Tryz.prog) w' (t := 271) (kt := 9) (et := 3) (d := .string) (k := sv sMIN) (z := .int .i64 0) Tryz.underlying271 Tryz.underlying9 (by trivial) hmb hkt (fun w => by kernel_rfl) false
        rw [hfd] at hlk
        simp only [Option.getD_some, Bool.false_eq_true, if_false] at hlk
        have HI7 := Lib.hid (HI.out.flag (i := 7) (by decide) (by decide) (n39 := .map (some mb)) (n40 := sv sMIN) (n41 := .int .i64 22) (n42 := m42) (fun h => HI.out.m5 (by simpa [did] using h)) (fun _ => rfl) (fun _ => rfl) (fun h => HI.out.m8 (by simpa [did] using h)))
        clear hmb hkt hfd
        refine inv_op rfl rfl (fun K hK => ?_)
        try simp only [Act.put, List.setIfInBounds_toArray, List.set_cons_zero, List.set_cons_succ]
        refine op_lookup rfl hlk ?_
        exact hK _ _ ⟨m38, .map (some mb), sv sMIN, .int .i64 22, m42, m43, m44, m45, (by simp only [Act.put, List.setIfInBounds_toArray, List.set_cons_zero, List.set_cons_succ]), HI7⟩
      · refine inv_op rfl rfl (fun K hK => ?_)
        try simp only [Act.put, List.setIfInBounds_toArray, List.set_cons_zero, List.set_cons_succ]
        go_simp
        exact hK _ _ ⟨m38, m39, m40, m41, .pointer (some ⟨p, 0, none⟩), m43, m44, m45, (by simp only [Act.put, List.setIfInBounds_toArray, List.set_cons_zero, List.set_cons_succ]), Lib.hid (HI.out.flag (i := 8) (by decide) (by decide) (fun h => HI.out.m5 (by simpa [did] using h)) (fun h => HI.out.m6 (by simpa [did] using h)) (fun h => HI.out.m7 (by simpa [did] using h)) (fun _ => rfl))⟩
      · have d8 : L 8 = true := hd 8 (by decide)
        have e8 := HI.out.m8 d8
        subst e8
        have hnot : ∀ j, j = 10 ∨ j = 11 ∨ j = 12 → L j = false := fun j hj => by
          cases e : L j with
          | false => rfl
          | true =>
            have : L 9 = true := hcl j e 9 (by rcases hj with rfl | rfl | rfl <;> decide)
            rw [hL] at this; cases this
        refine inv_op rfl rfl (fun K hK => ?_)
        try simp only [Act.put, List.setIfInBounds_toArray, List.set_cons_zero, List.set_cons_succ]
        go_simp
        refine (HP.out r1 _ (by omega) (HI.out.p1 hL) (HI.out.chg.glob hp10 HG.out)).mono ?_
        intro e w5 ho
        obtain ⟨q, hq⟩ : ∃ q, g r1 = q := ⟨_, rfl⟩
        rw [hq] at ho
        rcases q with _ | ⟨x, r2⟩
        · obtain ⟨hc5, rfl⟩ := ho
          exact ⟨rfl, POut.no (by unfold keyP; simp only [sMIN, sTRUE, sFALSE, sNULL, aggr, sCOUNT, sSUM, sMIN, sMAX]; simp [HQ1.out, hq]) (HI.out.chg.trans hc5 (fun _ h => .inl h))⟩
        · obtain ⟨hc5, E, rfl, hx, hpar⟩ := ho
          exact hK _ _ ⟨m38, m39, m40, m41, _, ExF.val E, m44, m45, (by simp only [Act.put, List.setIfInBounds_toArray, List.set_cons_zero, List.set_cons_succ]), Lib.hid (HI.out.s9 hpl hz2 (hnot 12 (by simp)) (hnot 10 (by simp)) hq hc5 hx hpar)⟩
      · have d9 : L 9 = true := hd 9 (by decide)
        have h11 : L 11 = false := by
          cases e : L 11 with
          | false => rfl
          | true =>
            have : L 10 = true := hcl 11 e 10 (by decide)
            rw [hL] at this; cases this
        have h12 : L 12 = false := by
          cases e : L 12 with
          | false => rfl
          | true =>
            have : L 10 = true := hcl 12 e 10 (by decide)
            rw [hL] at this; cases this
        have e43 : ∃ E, m43 = ExF.val E := by obtain ⟨_, _, E, _, e, _⟩ := HI.out.p2 d9; exact ⟨E, e⟩
        obtain ⟨E, rfl⟩ := e43
        refine inv_op rfl rfl (fun K hK => ?_)
        try simp only [Act.put, List.setIfInBounds_toArray, List.set_cons_zero, List.set_cons_succ]
        go_simp
        exact hK _ _ ⟨m38, m39, m40, m41, m42, _, _, m45, (by simp only [Act.put, List.setIfInBounds_toArray, List.set_cons_zero, List.set_cons_succ]), Lib.hid (HI.out.s10 hpl hz2 d9 h11 h12)⟩
      · have d7 : L 7 = true := hd 7 (by decide)
        have d10 : L 10 = true := hd 10 (by decide)
        have d9 : L 9 = true := hcl 10 d10 9 (by decide)
        have h12 : L 12 = false := by
          cases e : L 12 with
          | false => rfl
          | true =>
            have : L 11 = true := hcl 12 e 11 (by decide)
            rw [hL] at this; cases this
        have e44 : ∃ nb, m44 = .slice (some ⟨nb, 0, none⟩) 1 1 := by
          obtain ⟨_, _, _, _, _, _, _, h⟩ := HI.out.p2 d9
          obtain ⟨nb, h1, _⟩ := h d10
          exact ⟨nb, h1⟩
        obtain ⟨nb, rfl⟩ := e44
        have e41 := HI.out.m7 d7
        subst e41
        refine inv_op rfl rfl (fun K hK => ?_)
        try simp only [Act.put, List.setIfInBounds_toArray, List.set_cons_zero, List.set_cons_succ]
        go_simp
        refine (node_any _ _ _ _ _).mono ?_
        rintro e w5 ⟨rfl, x5⟩
        exact hK _ _ ⟨m38, m39, m40, _, m42, m43, _, _, (by simp only [Act.put, List.setIfInBounds_toArray, List.set_cons_zero, List.set_cons_succ]), Lib.hid (HI.out.s11 rfl h12 x5)⟩
      · have d11 : L 11 = true := hd 11 (by decide)
        have d10 : L 10 = true := hcl 11 d11 10 (by decide)
        have d9 : L 9 = true := hcl 10 d10 9 (by decide)
        have e44 : ∃ nb, m44 = .slice (some ⟨nb, 0, none⟩) 1 1 ∧ m45 = ExF.val ⟨22, 0, 0, [], [], [], 0, some ⟨nb, 0, none⟩, 1, 1⟩ := by
          obtain ⟨_, _, _, _, _, _, _, h⟩ := HI.out.p2 d9
          obtain ⟨nb, h1, _, _, _, _, h2, _⟩ := h d10
          exact ⟨nb, h1, h2 d11⟩
        obtain ⟨nb, rfl, rfl⟩ := e44
        have hbx := HI.out.box hL
        obtain ⟨z0, z1, z2, z3, z4, z5, z6, z7⟩ := ExCells.of hbx
        have fz : ∀ o, w'.frozen? ⟨w2.heap.size, o, none⟩ = false := fun o => frozen_of_row w' _ o _ _ hbx
        have HBX := Lib.hid hbx
        clear hbx
        refine inv_op rfl rfl (fun K hK => ?_)
        try simp only [Act.put, List.setIfInBounds_toArray, List.set_cons_zero, List.set_cons_succ]
        go_simp
        exact hK _ _ ⟨m38, m39, m40, m41, m42, m43, _, _, (by simp only [Act.put, List.setIfInBounds_toArray, List.set_cons_zero, List.set_cons_succ]), Lib.hid (HI.out.s12 rfl hL hpl htl hz2 (chg_set8 (Chg.refl (OneP w2.heap.size) w') (.inl rfl) _ _ _ _ _ _ _ _) (ex_set HBX.out ⟨22, 0, 0, [], [], [], 0, some ⟨nb, 0, none⟩, 1, 1⟩))⟩
attribute [local go_sem ↓] field_tok1 in
set_option maxRecDepth 100000 in
set_option maxHeartbeats 4000000 in
theorem keyword_max (g : Ptree) (N p tb : Nat) (hp10 : 10 ≤ p)
    (hp : ∀ ts w, ts.length ≤ N → PAt w p tb ts → Glob w → Calls Tryz.prog 111 #[.pointer (some ⟨p, 0, none⟩)] w (POut (g ts) p tb w))
    (tn : Int) (r : List Tok) (w : World) (hN : r.length ≤ N + 1) (h : PAt w p tb (⟨1, sMAX, tn⟩ :: r)) (hg : Glob w) : Calls Tryz.prog 185 #[.pointer (some ⟨p, 0, none⟩)] w (POut (keyP g sMAX r) p tb w) := by
  have hpl := h.lt
  have htl := h.tl
  have X0 : Chg NoB w _ := (Chg.refl NoB w).alloc (ExF.obj ⟨0, 0, 0, [], [], [], 0, none, 0, 0⟩)
  have H := Lib.hid (h.quiet X0)
  have HG := Lib.hid hg
  have HP := Lib.hid hp
  have HT : Hid (takeT 1 (⟨1, sMAX, tn⟩ :: r) = some (⟨1, sMAX, tn⟩, r)) := Lib.hid (by simp [takeT])
  clear h hg hp X0
  obtain ⟨q1, hq1⟩ : ∃ q1, nextT 5 [40] r = q1 := ⟨_, rfl⟩
  have HQ1 := Lib.hid hq1
  clear hq1
  go_enter Tryz.func185, Tryz.ntmps185
  go_wp2_with fail
  refine (take_yes H.out HT.out).mono ?_
  rintro e w1 ⟨rfl, HS⟩
  have X1 : Hid (Chg (OneP p) w w1) := Lib.hid (((Chg.refl (OneP p) w).alloc _).trans HS.out.2 (fun _ h => .inl h))
  have Z1 : Hid (w1.heap[w.heap.size]? = some (ExF.obj ⟨0, 0, 0, [], [], [], 0, none, 0, 0⟩)) := Lib.hid (HS.out.2.heap hal_new (by unfold OneP; omega))
  rcases q1 with _ | r1
  · go_wp2_with fail
    refine (sign_no HS.out.1 HQ1.out).mono ?_
    rintro e w' ⟨rfl, rfl⟩
    go_wp2_with fail
    refine (must_false _ _).mono ?_
    rintro e w' ⟨rfl, rfl⟩
    exact ⟨rfl, POut.no (by unfold keyP; simp only [sMAX, sTRUE, sFALSE, sNULL, aggr, sCOUNT, sSUM, sMIN, sMAX]; simp [HQ1.out]) X1.out⟩
  · have hr1 := nextT_len HQ1.out
    go_wp2_with fail
    refine (sign_yes HS.out.1 HQ1.out).mono ?_
    rintro e w2 ⟨rfl, HS2⟩
    have X2 : Hid (Chg (OneP p) w w2) := Lib.hid (X1.out.trans HS2.out.2 (fun _ h => .inl h))
    have Z2 : Hid (w2.heap[w.heap.size]? = some (ExF.obj ⟨0, 0, 0, [], [], [], 0, none, 0, 0⟩)) := Lib.hid (HS2.out.2.heap Z1.out (by unfold OneP; omega))
    have hz2 := lt_of_heap Z2.out
    have XB : Chg NoB w2 _ := (Chg.refl NoB w2).alloc (ExF.obj ⟨20, 0, 0, [], [], [], 0, none, 0, 0⟩)
    have P3 := Lib.hid (HS2.out.1.quiet XB)
    have X3 : Hid (Chg (OneP p) w (w2.alloc (ExF.obj ⟨20, 0, 0, [], [], [], 0, none, 0, 0⟩))) := Lib.hid (X2.out.trans XB (fun _ h => h.elim))
    have Z3 : Hid ((w2.alloc (ExF.obj ⟨20, 0, 0, [], [], [], 0, none, 0, 0⟩)).heap[w.heap.size]? = some (ExF.obj ⟨0, 0, 0, [], [], [], 0, none, 0, 0⟩)) := Lib.hid (XB.heap Z2.out (fun h => h))
    have B3 : Hid ((w2.alloc (ExF.obj ⟨20, 0, 0, [], [], [], 0, none, 0, 0⟩)).heap[w2.heap.size]? = some (ExF.obj ⟨20, 0, 0, [], [], [], 0, none, 0, 0⟩)) := Lib.hid hal_new
    clear XB
    go_wp2_with fail
    refine (must_true _ _).mono ?_
    rintro e w' ⟨rfl, rfl⟩
    go_upto_region 16 with fail
    generalize hW : w2.alloc _ = W
    have hW' : w2.alloc (ExF.obj ⟨20, 0, 0, [], [], [], 0, none, 0, 0⟩) = W := hW
    rw [hW'] at P3 X3 Z3 B3
    clear hW hW'
    generalize hA : Act.mk _ _ = A
    refine wp_region_inv (by kernel_rfl) (by kernel_rfl) (fun L a w' => ∃ m38 m39 m40 m41 m42 m43 m44 m45, a = (((((((A.put (some 38) m38).put (some 39) m39).put (some 40) m40).put (some 41) m41).put (some 42) m42).put (some 43) m43).put (some 44) m44).put (some 45) m45 ∧ Hid (AggI g p tb w2.heap.size w sMAX 23 r1 L m38 m39 m40 m41 m42 m43 m44 m45 w')) ?_ ?_ ?_
    · subst hA
      exact ⟨undef, undef, undef, undef, undef, undef, undef, undef, (by simp only [Act.put, List.setIfInBounds_toArray, List.set_cons_zero, List.set_cons_succ]), Lib.hid ⟨X3.out.drew, Z3.out, fun _ => B3.out, (fun h => by cases h), (fun h => by cases h), (fun h => by cases h), (fun h => by cases h), (fun h => by cases h), fun _ => P3.out.quiet (Chg.refl _ _).drew, (fun h => by cases h)⟩⟩
    · intro L a w9 hall hI
      obtain ⟨m38, m39, m40, m41, m42, m43, m44, m45, rfl, HI⟩ := hI
      subst hA
      have hF := HI.out.fin hall
      obtain ⟨x, r2, E, hg2, hpar, hx, hbx⟩ := hF
      have HG2 := Lib.hid hg2
      have P9 := Lib.hid hpar
      have T9 := Lib.hid hx
      have B9 := Lib.hid hbx
      have X9 := Lib.hid HI.out.chg
      have Z9 := Lib.hid HI.out.zero
      clear hall HI hg2 hpar hx hbx
      try simp only [Act.put, List.setIfInBounds_toArray, List.set_cons_zero, List.set_cons_succ]
      obtain ⟨q9, hq9⟩ : ∃ q9, nextT 5 [41] r2 = q9 := ⟨_, rfl⟩
      have HQ9 := Lib.hid hq9
      clear hq9
      have HK9 : Hid (keyP g sMAX r = closeP (.un 23 x) r2) := Lib.hid (by unfold keyP; simp only [sMAX, sTRUE, sFALSE, sNULL, aggr, sCOUNT, sSUM, sMIN, sMAX]; simp [HQ1.out, HG2.out])
      rcases q9 with _ | r9
      · go_wp2_with fail
        refine (sign_no P9.out HQ9.out).mono ?_
        rintro e w' ⟨rfl, rfl⟩
        go_wp2_with fail
        refine (must_false _ _).mono ?_
        rintro e w' ⟨rfl, rfl⟩
        exact ⟨rfl, POut.no (by rw [HK9.out]; unfold closeP; rw [HQ9.out]) X9.out⟩
      · have HF : Hid (keyP g sMAX r = some ((.un 23 x), r9)) := Lib.hid (by rw [HK9.out]; unfold closeP; rw [HQ9.out])
        go_wp2_with fail
        refine (sign_yes P9.out HQ9.out).mono ?_
        rintro e w10 ⟨rfl, HS10⟩
        have X10 : Hid (Chg (OneP p) w w10) := Lib.hid (X9.out.trans HS10.out.2 (fun _ h => .inl h))
        have Z10 : Hid (w10.heap[w.heap.size]? = some (ExF.obj ⟨0, 0, 0, [], [], [], 0, none, 0, 0⟩)) := Lib.hid (HS10.out.2.heap Z9.out (by unfold OneP; omega))
        have B10 : Hid (w10.heap[w2.heap.size]? = some (ExF.obj E)) := Lib.hid (HS10.out.2.heap B9.out (by unfold OneP; omega))
        have T10 : Hid (ExAt w10 (fun q => w.heap.size < q) (.un 23 x) E) := Lib.hid ((ExAt.chg HS10.out.2 (fun q h e => by unfold OneP at e; omega) _ _ T9.out).mono fun q h _ => h.1)
        go_wp2_with fail
        refine (must_true _ _).mono ?_
        rintro e w' ⟨rfl, rfl⟩
        obtain ⟨y0, y1, y2, y3, y4, y5, y6, y7⟩ := ExCells.of B10.out
        obtain ⟨z0, z1, z2, z3, z4, z5, z6, z7⟩ := ExCells.of Z10.out
        have fz : ∀ o, w10.frozen? ⟨w.heap.size, o, none⟩ = false := fun o => frozen_of_row w10 _ o _ _ Z10.out
        go_wp2
        exact pout_ret (E := E) rfl rfl HF.out X10.out Z10.out T10.out HS10.out.1 hpl htl
    · intro L i a w' hi hL hd hcl hI
      obtain ⟨m38, m39, m40, m41, m42, m43, m44, m45, rfl, HI⟩ := hI
      subst hA
      have hi : i < 13 := hi
      rcases (show i = 0 ∨ i = 1 ∨ i = 2 ∨ i = 3 ∨ i = 4 ∨ i = 5 ∨ i = 6 ∨ i = 7 ∨ i = 8 ∨ i = 9 ∨ i = 10 ∨ i = 11 ∨ i = 12 by omega) with rfl | rfl | rfl | rfl | rfl | rfl | rfl | rfl | rfl | rfl | rfl | rfl | rfl
      · refine inv_op rfl rfl (fun K hK => ?_)
        try simp only [Act.put, List.setIfInBounds_toArray, List.set_cons_zero, List.set_cons_succ]
        have hmm := @run_makeMap Tryz.prog
        go_simp
        have hn : ∀ j, 0 < j → j < 6 → L j = false := fun j h0 h6 => by
          cases e : L j with
          | false => rfl
          | true =>
            have : L 0 = true := hcl j e 0 (by rcases (show j = 1 ∨ j = 2 ∨ j = 3 ∨ j = 4 ∨ j = 5 by omega) with rfl | rfl | rfl | rfl | rfl <;> decide)
            rw [hL] at this; cases this
        have hn12 : L 12 = false := by
          cases e : L 12 with
          | false => rfl
          | true =>
            have : L 0 = true := hcl 12 e 0 (by decide)
            rw [hL] at this; cases this
        exact hK _ _ ⟨_, m39, m40, m41, m42, m43, m44, m45, (by simp only [Act.put, List.setIfInBounds_toArray, List.set_cons_zero, List.set_cons_succ]), Lib.hid (HI.out.s0 hpl hz2 (lt_of_heap (HI.out.box hn12)) hn)⟩
      · have d0 : L 0 = true := hd 0 (by decide)
        have h5 : L 5 = false := by
          cases e : L 5 with
          | false => rfl
          | true =>
            have : L 1 = true := hcl 5 e 1 (by decide)
            rw [hL] at this; cases this
        have hm0 := HI.out.m0 d0
        obtain ⟨mb, es, c, rfl, hmb, h1, h2, h3, h4⟩ := hm0
        have HP1 := Lib.hid (HI.out.put htl (i := 1) (s := sCOUNT) (v := 20) rfl hmb h1 h2 h3 h4 h5)
        have hmu := run_mapUpdate (P := Tryz.prog) w' (t := 271) (kt := 9) (et := 3) (d := .string) (k := sv sCOUNT) (v := .int .i64 20) Tryz.underlying271 Tryz.underlying9 (by trivial) hmb h4.keys
        refine inv_op rfl rfl (fun K hK => ?_)
        try simp only [Act.put, List.setIfInBounds_toArray, List.set_cons_zero, List.set_cons_succ]
        refine op_insert rfl hmu ?_
        exact hK _ _ ⟨_, m39, m40, m41, m42, m43, m44, m45, (by simp only [Act.put, List.setIfInBounds_toArray, List.set_cons_zero, List.set_cons_succ]), HP1⟩
      · have d0 : L 0 = true := hd 0 (by decide)
        have h5 : L 5 = false := by
          cases e : L 5 with
          | false => rfl
          | true =>
            have : L 2 = true := hcl 5 e 2 (by decide)
            rw [hL] at this; cases this
        have hm0 := HI.out.m0 d0
        obtain ⟨mb, es, c, rfl, hmb, h1, h2, h3, h4⟩ := hm0
        have HP1 := Lib.hid (HI.out.put htl (i := 2) (s := sSUM) (v := 21) rfl hmb h1 h2 h3 h4 h5)
        have hmu := run_mapUpdate (P := Tryz.prog) w' (t := 271) (kt := 9) (et := 3) (d := .string) (k := sv sSUM) (v := .int .i64 21) Tryz.underlying271 Tryz.underlying9 (by trivial) hmb h4.keys
        refine inv_op rfl rfl (fun K hK => ?_)
        try simp only [Act.put, List.setIfInBounds_toArray, List.set_cons_zero, List.set_cons_succ]
        refine op_insert rfl hmu ?_
        exact hK _ _ ⟨_, m39, m40, m41, m42, m43, m44, m45, (by simp only [Act.put, List.setIfInBounds_toArray, List.set_cons_zero, List.set_cons_succ]), HP1⟩
      · have d0 : L 0 = true := hd 0 (by decide)
        have h5 : L 5 = false := by
          cases e : L 5 with
          | false => rfl
          | true =>
            have : L 3 = true := hcl 5 e 3 (by decide)
            rw [hL] at this; cases this
        have hm0 := HI.out.m0 d0
        obtain ⟨mb, es, c, rfl, hmb, h1, h2, h3, h4⟩ := hm0
        have HP1 := Lib.hid (HI.out.put htl (i := 3) (s := sMIN) (v := 22) rfl hmb h1 h2 h3 h4 h5)
        have hmu := run_mapUpdate (P := Tryz.prog) w' (t := 271) (kt := 9) (et := 3) (d := .string) (k := sv sMIN) (v := .int .i64 22) Tryz.underlying271 Tryz.underlying9 (by trivial) hmb h4.keys
        refine inv_op rfl rfl (fun K hK => ?_)
        try simp only [Act.put, List.setIfInBounds_toArray, List.set_cons_zero, List.set_cons_succ]
        refine op_insert rfl hmu ?_
        exact hK _ _ ⟨_, m39, m40, m41, m42, m43, m44, m45, (by simp only [Act.put, List.setIfInBounds_toArray, List.set_cons_zero, List.set_cons_succ]), HP1⟩
      · have d0 : L 0 = true := hd 0 (by decide)
        have h5 : L 5 = false := by
          cases e : L 5 with
          | false => rfl
          | true =>
            have : L 4 = true := hcl 5 e 4 (by decide)
            rw [hL] at this; cases this
        have hm0 := HI.out.m0 d0
        obtain ⟨mb, es, c, rfl, hmb, h1, h2, h3, h4⟩ := hm0
        have HP1 := Lib.hid (HI.out.put htl (i := 4) (s := sMAX) (v := 23) rfl hmb h1 h2 h3 h4 h5)
        have hmu := run_mapUpdate (P := Tryz.prog) w' (t := 271) (kt := 9) (et := 3) (d := .string) (k := sv sMAX) (v := .int .i64 23) Tryz.underlying271 Tryz.underlying9 (by trivial) hmb h4.keys
        refine inv_op rfl rfl (fun K hK => ?_)
        try simp only [Act.put, List.setIfInBounds_toArray, List.set_cons_zero, List.set_cons_succ]
        refine op_insert rfl hmu ?_
        exact hK _ _ ⟨_, m39, m40, m41, m42, m43, m44, m45, (by simp only [Act.put, List.setIfInBounds_toArray, List.set_cons_zero, List.set_cons_succ]), HP1⟩
      · refine inv_op rfl rfl (fun K hK => ?_)
        try simp only [Act.put, List.setIfInBounds_toArray, List.set_cons_zero, List.set_cons_succ]
        go_simp
        exact hK _ _ ⟨m38, m38, m40, m41, m42, m43, m44, m45, (by simp only [Act.put, List.setIfInBounds_toArray, List.set_cons_zero, List.set_cons_succ]), Lib.hid (HI.out.flag (i := 5) (by decide) (by decide) (fun _ => rfl) (fun h => HI.out.m6 (by simpa [did] using h)) (fun h => HI.out.m7 (by simpa [did] using h)) (fun h => HI.out.m8 (by simpa [did] using h)))⟩
      · refine inv_op rfl rfl (fun K hK => ?_)
        try simp only [Act.put, List.setIfInBounds_toArray, List.set_cons_zero, List.set_cons_succ]
        go_simp
        exact hK _ _ ⟨m38, m39, sv sMAX, m41, m42, m43, m44, m45, (by simp only [Act.put, List.setIfInBounds_toArray, List.set_cons_zero, List.set_cons_succ]), Lib.hid (HI.out.flag (i := 6) (by decide) (by decide) (fun h => HI.out.m5 (by simpa [did] using h)) (fun _ => rfl) (fun h => HI.out.m7 (by simpa [did] using h)) (fun h => HI.out.m8 (by simpa [did] using h)))⟩
      · have d5 : L 5 = true := hd 5 (by decide)
        have d6 : L 6 = true := hd 6 (by decide)
        have d0 : L 0 = true := hcl 5 d5 0 (by decide)
        have dj : L 4 = true := hcl 5 d5 4 (by decide)
        have hff := HI.out.found d5 d6 d0 (j := 4) rfl dj
        obtain ⟨mb, es, c, rfl, rfl, hmb, hkt, hfd⟩ := hff
        have hlk := run_lookup (P := Tryz.prog) w' (t := 271) (kt := 9) (et := 3) (d := .string) (k := sv sMAX) (z := .int .i64 0) Tryz.underlying271 Tryz.underlying9 (by trivial) hmb hkt (fun w => by kernel_rfl) false
        rw [hfd] at hlk
        simp only [Option.getD_some, Bool.false_eq_true, if_false] at hlk
        have HI7 := Lib.hid (HI.out.flag (i := 7) (by decide) (by decide) (n39 := .map (some mb)) (n40 := sv sMAX) (n41 := .int .i64 23) (n42 := m42) (fun h => HI.out.m5 (by simpa [did] using h)) (fun _ => rfl) (fun _ => rfl) (fun h => HI.out.m8 (by simpa [did] using h)))
        clear hmb hkt hfd
        refine inv_op rfl rfl (fun K hK => ?_)
        try simp only [Act.put, List.setIfInBounds_toArray, List.set_cons_zero, List.set_cons_succ]
        refine op_lookup rfl hlk ?_
        exact hK _ _ ⟨m38, .map (some mb), sv sMAX, .int .i64 23, m42, m43, m44, m45, (by simp only [Act.put, List.setIfInBounds_toArray, List.set_cons_zero, List.set_cons_succ]), HI7⟩
      · refine inv_op rfl rfl (fun K hK => ?_)
        try simp only [Act.put, List.setIfInBounds_toArray, List.set_cons_zero, List.set_cons_succ]
        go_simp
        exact hK _ _ ⟨m38, m39, m40, m41, .pointer (some ⟨p, 0, none⟩), m43, m44, m45, (by simp only [Act.put, List.setIfInBounds_toArray, List.set_cons_zero, List.set_cons_succ]), Lib.hid (HI.out.flag (i := 8) (by decide) (by decide) (fun h => HI.out.m5 (by simpa [did] using h)) (fun h => HI.out.m6 (by simpa [did] using h)) (fun h => HI.out.m7 (by simpa [did] using h)) (fun _ => rfl))⟩
      · have d8 : L 8 = true := hd 8 (by decide)
        have e8 := HI.out.m8 d8
        subst e8
        have hnot : ∀ j, j = 10 ∨ j = 11 ∨ j = 12 → L j = false := fun j hj => by
          cases e : L j with
          | false => rfl
          | true =>
            have : L 9 = true := hcl j e 9 (by rcases hj with rfl | rfl | rfl <;> decide)
            rw [hL] at this; cases this
        refine inv_op rfl rfl (fun K hK => ?_)
        try simp only [Act.put, List.setIfInBounds_toArray, List.set_cons_zero, List.set_cons_succ]
        go_simp
        refine (HP.out r1 _ (by omega) (HI.out.p1 hL) (HI.out.chg.glob hp10 HG.out)).mono ?_
        intro e w5 ho
        obtain ⟨q, hq⟩ : ∃ q, g r1 = q := ⟨_, rfl⟩
        rw [hq] at ho
        rcases q with _ | ⟨x, r2⟩
        · obtain ⟨hc5, rfl⟩ := ho
          exact ⟨rfl, POut.no (by unfold keyP; simp only [sMAX, sTRUE, sFALSE, sNULL, aggr, sCOUNT, sSUM, sMIN, sMAX]; simp [HQ1.out, hq]) (HI.out.chg.trans hc5 (fun _ h => .inl h))⟩
        · obtain ⟨hc5, E, rfl, hx, hpar⟩ := ho
          exact hK _ _ ⟨m38, m39, m40, m41, _, ExF.val E, m44, m45, (by simp only [Act.put, List.setIfInBounds_toArray, List.set_cons_zero, List.set_cons_succ]), Lib.hid (HI.out.s9 hpl hz2 (hnot 12 (by simp)) (hnot 10 (by simp)) hq hc5 hx hpar)⟩
      · have d9 : L 9 = true := hd 9 (by decide)
        have h11 : L 11 = false := by
          cases e : L 11 with
          | false => rfl
          | true =>
            have : L 10 = true := hcl 11 e 10 (by decide)
            rw [hL] at this; cases this
        have h12 : L 12 = false := by
          cases e : L 12 with
          | false => rfl
          | true =>
            have : L 10 = true := hcl 12 e 10 (by decide)
            rw [hL] at this; cases this
        have e43 : ∃ E, m43 = ExF.val E := by obtain ⟨_, _, E, _, e, _⟩ := HI.out.p2 d9; exact ⟨E, e⟩
        obtain ⟨E, rfl⟩ := e43
        refine inv_op rfl rfl (fun K hK => ?_)
        try simp only [Act.put, List.setIfInBounds_toArray, List.set_cons_zero, List.set_cons_succ]
        go_simp
        exact hK _ _ ⟨m38, m39, m40, m41, m42, _, _, m45, (by simp only [Act.put, List.setIfInBounds_toArray, List.set_cons_zero, List.set_cons_succ]), Lib.hid (HI.out.s10 hpl hz2 d9 h11 h12)⟩
      · have d7 : L 7 = true := hd 7 (by decide)
        have d10 : L 10 = true := hd 10 (by decide)
        have d9 : L 9 = true := hcl 10 d10 9 (by decide)
        have h12 : L 12 = false := by
          cases e : L 12 with
          | false => rfl
          | true =>
            have : L 11 = true := hcl 12 e 11 (by decide)
            rw [hL] at this; cases this
        have e44 : ∃ nb, m44 = .slice (some ⟨nb, 0, none⟩) 1 1 := by
          obtain ⟨_, _, _, _, _, _, _, h⟩ := HI.out.p2 d9
          obtain ⟨nb, h1, _⟩ := h d10
          exact ⟨nb, h1⟩
        obtain ⟨nb, rfl⟩ := e44
        have e41 := HI.out.m7 d7
        subst e41
        refine inv_op rfl rfl (fun K hK => ?_)
        try simp only [Act.put, List.setIfInBounds_toArray, List.set_cons_zero, List.set_cons_succ]
        go_simp
        refine (node_any _ _ _ _ _).mono ?_
        rintro e w5 ⟨rfl, x5⟩
        exact hK _ _ ⟨m38, m39, m40, _, m42, m43, _, _, (by simp only [Act.put, List.setIfInBounds_toArray, List.set_cons_zero, List.set_cons_succ]), Lib.hid (HI.out.s11 rfl h12 x5)⟩
      · have d11 : L 11 = true := hd 11 (by decide)
        have d10 : L 10 = true := hcl 11 d11 10 (by decide)
        have d9 : L 9 = true := hcl 10 d10 9 (by decide)
        have e44 : ∃ nb, m44 = .slice (some ⟨nb, 0, none⟩) 1 1 ∧ m45 = ExF.val ⟨23, 0, 0, [], [], [], 0, some ⟨nb, 0, none⟩, 1, 1⟩ := by
          obtain ⟨_, _, _, _, _, _, _, h⟩ := HI.out.p2 d9
          obtain ⟨nb, h1, _, _, _, _, h2, _⟩ := h d10
          exact ⟨nb, h1, h2 d11⟩
        obtain ⟨nb, rfl, rfl⟩ := e44
        have hbx := HI.out.box hL
        obtain ⟨z0, z1, z2, z3, z4, z5, z6, z7⟩ := ExCells.of hbx
        have fz : ∀ o, w'.frozen? ⟨w2.heap.size, o, none⟩ = false := fun o => frozen_of_row w' _ o _ _ hbx
        have HBX := Lib.hid hbx
        clear hbx
        refine inv_op rfl rfl (fun K hK => ?_)
        try simp only [Act.put, List.setIfInBounds_toArray, List.set_cons_zero, List.set_cons_succ]
        go_simp
        exact hK _ _ ⟨m38, m39, m40, m41, m42, m43, _, _, (by simp only [Act.put, List.setIfInBounds_toArray, List.set_cons_zero, List.set_cons_succ]), Lib.hid (HI.out.s12 rfl hL hpl htl hz2 (chg_set8 (Chg.refl (OneP w2.heap.size) w') (.inl rfl) _ _ _ _ _ _ _ _) (ex_set HBX.out ⟨23, 0, 0, [], [], [], 0, some ⟨nb, 0, none⟩, 1, 1⟩))⟩
end Go.Proofs.YtnbckfkdmkbopaaGreatDoor
