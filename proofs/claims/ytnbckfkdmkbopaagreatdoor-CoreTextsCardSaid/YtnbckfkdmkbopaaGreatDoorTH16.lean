/-
  The parser's atom: keywords, parentheses; and all of it. No condition beyond each lemma's own.
  The parser's expressions: every level, by induction over the fuel. No condition beyond each lemma's own.
-/
import Derived.Test.YtnbckfkdmkbopaaGreatDoorTH15
set_option autoImplicit false
namespace Go.Proofs.YtnbckfkdmkbopaaGreatDoor
open Go Go.RowKit

set_option maxRecDepth 100000 in
set_option maxHeartbeats 4000000 in
theorem atom_word (g : Ptree) (N p tb : Nat) (hp10 : 10 ≤ p)
    (hp : ∀ ts w, ts.length ≤ N → PAt w p tb ts → Glob w → Calls Tryz.prog 111 #[.pointer (some ⟨p, 0, none⟩)] w (POut (g ts) p tb w))
    (tt : Str) (tn : Int) (r : List Tok) (w : World) (hN : r.length ≤ N) (h : PAt w p tb (⟨1, tt, tn⟩ :: r)) (hg : Glob w) : Calls Tryz.prog 183 #[.pointer (some ⟨p, 0, none⟩)] w (POut (atomP g (⟨1, tt, tn⟩ :: r)) p tb w) := by
  have hpl := h.lt
  have htl := h.tl
  have hcc := h.cells
  obtain ⟨o, c, hc, hh, hr, hr2⟩ := hcc
  have hal : ∀ x, x < w.heap.size → (w.alloc zeroE.obj).heap[x]? = w.heap[x]? := fun x hx => hal_old hx
  have c0 : (w.alloc zeroE.obj).cell? ⟨p, 0, none⟩ = some (.slice (some ⟨tb, o, none⟩) (r.length + 1) c) := cell_of_row _ p 0 _ _ _ ((hal p hpl).trans hh)
  have f0 : (w.alloc zeroE.obj).frozen? ⟨p, 0, none⟩ = false := frozen_of_row _ p 0 _ _ ((hal p hpl).trans hh)
  have q0 : (w.alloc zeroE.obj).cell? ⟨tb, o, none⟩ = some (.int .i64 1) := (cell_of_heap (hal tb htl)).trans (hr 0 _ rfl)
  have q1 : (w.alloc zeroE.obj).cell? ⟨tb, o + 1, none⟩ = some (sv tt) := (cell_of_heap (hal tb htl)).trans (hr 1 _ rfl)
  have q2 : (w.alloc zeroE.obj).cell? ⟨tb, o + 2, none⟩ = some (.int .i64 tn) := (cell_of_heap (hal tb htl)).trans (hr 2 _ rfl)
  have hz2 : (0 : Int) < (r.length : Int) + 1 := by omega
  have XT : Chg NoB w _ := ((Chg.refl NoB w).alloc zeroE.obj).alloc (.cells #[.int .i64 1, sv tt, .int .i64 tn] 133)
  have PT := Lib.hid (h.quiet XT)
  have GT := Lib.hid (hg.quiet XT)
  have XT0 : Hid (Chg NoB w ((w.alloc zeroE.obj).alloc (.cells #[.int .i64 1, sv tt, .int .i64 tn] 133))) := Lib.hid XT
  have ZT : Hid (((w.alloc zeroE.obj).alloc (.cells #[.int .i64 1, sv tt, .int .i64 tn] 133)).heap[w.heap.size]? = some zeroE.obj) := Lib.hid ((hal_old (by simp)).trans hal_new)
  have HP := Lib.hid hp
  clear h hr hr2 hh hal XT hg hp
  go_enter Tryz.func183, Tryz.ntmps183
  go_wp2_with fail
  refine (must_true _ _).mono ?_
  rintro e w' ⟨rfl, rfl⟩
  go_wp2_with fail
  refine (keyword_w g N p tb hp10 HP.out ⟨1, tt, tn⟩ r _ rfl (by omega) PT.out GT.out).mono ?_
  intro e w1 ho
  have X1 : Chg (OneP p) w w1 := (chg_no XT0.out).trans ho.1 (fun _ h => .inl h)
  have Z1 : w1.heap[w.heap.size]? = some zeroE.obj := ho.1.heap ZT.out (by unfold OneP; omega)
  have HF : Hid (atomP g (⟨1, tt, tn⟩ :: r) = keyP g tt r) := Lib.hid (by simp only [atomP]; rfl)
  obtain ⟨q, hq⟩ : ∃ q, keyP g tt r = q := ⟨_, rfl⟩
  rw [hq] at HF
  simp only [hq] at ho
  rcases q with _ | ⟨x, r2⟩
  · obtain ⟨_, rfl⟩ := ho
    exact ⟨rfl, POut.no HF.out X1⟩
  · obtain ⟨_, E, rfl, hx, hpar⟩ := ho
    obtain ⟨z0, z1, z2, z3, z4, z5, z6, z7⟩ := ExCells.of Z1
    have fz : ∀ o, w1.frozen? ⟨w.heap.size, o, none⟩ = false := fun o => frozen_of_row w1 _ o _ _ Z1
    have HX := Lib.hid hx
    have HPar := Lib.hid hpar
    have HX1 := Lib.hid X1
    have HZ1 := Lib.hid Z1
    clear hq hx hpar X1 Z1
    go_wp2
    exact pout_ret rfl rfl HF.out HX1.out HZ1.out (HX.out.mono fun q h _ => by simp at h; omega) HPar.out hpl htl
set_option maxRecDepth 100000 in
set_option maxHeartbeats 4000000 in
theorem atom_paren (g : Ptree) (N p tb : Nat) (hp10 : 10 ≤ p)
    (hp : ∀ ts w, ts.length ≤ N → PAt w p tb ts → Glob w → Calls Tryz.prog 111 #[.pointer (some ⟨p, 0, none⟩)] w (POut (g ts) p tb w))
    (k : Int) (tt : Str) (tn : Int) (r : List Tok) (w : World) (hk1 : ¬ k = 1) (hk2 : ¬ k = 2) (hk3 : ¬ k = 3) (hk4 : ¬ k = 4) (hN : r.length ≤ N) (h : PAt w p tb (⟨k, tt, tn⟩ :: r)) (hg : Glob w) : Calls Tryz.prog 183 #[.pointer (some ⟨p, 0, none⟩)] w (POut (atomP g (⟨k, tt, tn⟩ :: r)) p tb w) := by
  have hpl := h.lt
  have htl := h.tl
  have hcc := h.cells
  obtain ⟨o, c, hc, hh, hr, hr2⟩ := hcc
  have hal : ∀ x, x < w.heap.size → (w.alloc zeroE.obj).heap[x]? = w.heap[x]? := fun x hx => hal_old hx
  have c0 : (w.alloc zeroE.obj).cell? ⟨p, 0, none⟩ = some (.slice (some ⟨tb, o, none⟩) (r.length + 1) c) := cell_of_row _ p 0 _ _ _ ((hal p hpl).trans hh)
  have f0 : (w.alloc zeroE.obj).frozen? ⟨p, 0, none⟩ = false := frozen_of_row _ p 0 _ _ ((hal p hpl).trans hh)
  have q0 : (w.alloc zeroE.obj).cell? ⟨tb, o, none⟩ = some (.int .i64 k) := (cell_of_heap (hal tb htl)).trans (hr 0 _ rfl)
  have q1 : (w.alloc zeroE.obj).cell? ⟨tb, o + 1, none⟩ = some (sv tt) := (cell_of_heap (hal tb htl)).trans (hr 1 _ rfl)
  have q2 : (w.alloc zeroE.obj).cell? ⟨tb, o + 2, none⟩ = some (.int .i64 tn) := (cell_of_heap (hal tb htl)).trans (hr 2 _ rfl)
  have hz2 : (0 : Int) < (r.length : Int) + 1 := by omega
  have XT : Chg NoB w _ := ((Chg.refl NoB w).alloc zeroE.obj).alloc (.cells #[.int .i64 k, sv tt, .int .i64 tn] 133)
  have PT := Lib.hid (h.quiet XT)
  have GT := Lib.hid (hg.quiet XT)
  have XT0 : Hid (Chg NoB w ((w.alloc zeroE.obj).alloc (.cells #[.int .i64 k, sv tt, .int .i64 tn] 133))) := Lib.hid XT
  have ZT : Hid (((w.alloc zeroE.obj).alloc (.cells #[.int .i64 k, sv tt, .int .i64 tn] 133)).heap[w.heap.size]? = some zeroE.obj) := Lib.hid ((hal_old (by simp)).trans hal_new)
  have HP := Lib.hid hp
  clear h hr hr2 hh hal XT hg hp
  have e1 : (k == 1) = false := by simpa using hk1
  have e2 : (k == 2) = false := by simpa using hk2
  have e3 : (k == 3) = false := by simpa using hk3
  have e4 : (k == 4) = false := by simpa using hk4
  have HF0 : Hid (atomP g (⟨k, tt, tn⟩ :: r) = match nextT 5 [40] (⟨k, tt, tn⟩ :: r) with
      | none => none
      | some r1 =>
        match g r1 with
        | none => none
        | some (x, r2) => closeP x r2) := Lib.hid (by simp only [atomP, e1, e2, e3, e4]; rfl)
  clear hk1 hk2 hk3 hk4
  obtain ⟨q, hq⟩ : ∃ q, nextT 5 [40] (⟨k, tt, tn⟩ :: r) = q := ⟨_, rfl⟩
  rw [hq] at HF0
  have HQ := Lib.hid hq
  rcases q with _ | r1
  · clear hq
    go_enter Tryz.func183, Tryz.ntmps183
    go_wp2_with fail
    refine (must_true _ _).mono ?_
    rintro e w' ⟨rfl, rfl⟩
    go_wp2_with fail
    refine (sign_no PT.out HQ.out).mono ?_
    rintro e w' ⟨rfl, rfl⟩
    go_wp2_with fail
    refine (must_false _ _).mono ?_
    rintro e w' ⟨rfl, rfl⟩
    exact ⟨rfl, POut.no HF0.out (chg_no XT0.out)⟩
  · have hrl := nextT_len hq
    simp only [List.length_cons] at hrl
    clear hq
    go_enter Tryz.func183, Tryz.ntmps183
    go_wp2_with fail
    refine (must_true _ _).mono ?_
    rintro e w' ⟨rfl, rfl⟩
    go_wp2_with fail
    refine (sign_yes PT.out HQ.out).mono ?_
    rintro e w1 ⟨rfl, HS⟩
    have X1 : Hid (Chg (OneP p) w w1) := Lib.hid ((chg_no XT0.out).trans HS.out.2 (fun _ h => .inl h))
    have Z1 : Hid (w1.heap[w.heap.size]? = some zeroE.obj) := Lib.hid (HS.out.2.heap ZT.out (by unfold OneP; omega))
    go_wp2_with fail
    refine (must_true _ _).mono ?_
    rintro e w' ⟨rfl, rfl⟩
    have G1 := Lib.hid (HS.out.2.glob hp10 GT.out)
    have hz1 := lt_of_heap Z1.out
    go_wp2_with fail
    refine (HP.out r1 _ (by omega) HS.out.1 G1.out).mono ?_
    intro e w2 ho
    have X2 : Hid (Chg (OneP p) w w2) := Lib.hid (X1.out.trans ho.1 (fun _ h => .inl h))
    have Z2 : Hid (w2.heap[w.heap.size]? = some zeroE.obj) := Lib.hid (ho.1.heap Z1.out (by unfold OneP; omega))
    obtain ⟨q, hq⟩ : ∃ q, g r1 = q := ⟨_, rfl⟩
    rw [hq] at ho
    simp only [hq] at HF0
    rcases q with _ | ⟨x, r2⟩
    · obtain ⟨_, rfl⟩ := ho
      exact ⟨rfl, POut.no HF0.out X2.out⟩
    · obtain ⟨_, E, rfl, hx, hpar⟩ := ho
      have XB : Chg NoB w2 (w2.alloc E.obj) := (Chg.refl NoB w2).alloc E.obj
      have HX : Hid (ExAt (w2.alloc E.obj) (fun q => w.heap.size < q) x E) := Lib.hid ((hx.mono (fun q h _ => (show w.heap.size < q by omega))).quiet XB)
      have HPar := Lib.hid (hpar.quiet XB)
      have XB2 : Hid (Chg (OneP p) w (w2.alloc E.obj)) := Lib.hid (X2.out.trans XB (fun _ h => h.elim))
      have ZB : Hid ((w2.alloc E.obj).heap[w.heap.size]? = some zeroE.obj) := Lib.hid (XB.heap Z2.out (fun h => h))
      have YB : Hid ((w2.alloc E.obj).heap[w2.heap.size]? = some E.obj) := Lib.hid hal_new
      have hz2' := lt_of_heap Z2.out
      have hpx : ¬ w2.heap.size = p := by omega
      clear hq hx hpar XB
      obtain ⟨q2, hq2⟩ : ∃ q, nextT 5 [41] r2 = q := ⟨_, rfl⟩
      have HQ2 := Lib.hid hq2
      clear hq2
      rcases q2 with _ | r3
      · go_wp2_with fail
        refine (sign_no HPar.out HQ2.out).mono ?_
        rintro e w' ⟨rfl, rfl⟩
        go_wp2_with fail
        refine (must_false _ _).mono ?_
        rintro e w' ⟨rfl, rfl⟩
        exact ⟨rfl, POut.no (HF0.out.trans (by simp only [closeP, HQ2.out])) XB2.out⟩
      · go_wp2_with fail
        refine (sign_yes HPar.out HQ2.out).mono ?_
        rintro e w3 ⟨rfl, HS3⟩
        have X3 : Hid (Chg (OneP p) w w3) := Lib.hid (XB2.out.trans HS3.out.2 (fun _ h => .inl h))
        have Z3 : Hid (w3.heap[w.heap.size]? = some zeroE.obj) := Lib.hid (HS3.out.2.heap ZB.out (by unfold OneP; omega))
        have Y3 : Hid (w3.heap[w2.heap.size]? = some E.obj) := Lib.hid (HS3.out.2.heap YB.out (by unfold OneP; omega))
        have T3 : Hid (ExAt w3 (fun q => w.heap.size < q) x E) := Lib.hid ((ExAt.chg HS3.out.2 (fun q h e => by unfold OneP at e; omega) _ _ HX.out).mono (fun q h _ => by omega))
        go_wp2_with fail
        refine (must_true _ _).mono ?_
        rintro e w' ⟨rfl, rfl⟩
        obtain ⟨y0, y1, y2, y3, y4, y5, y6, y7⟩ := ExCells.of Y3.out
        obtain ⟨z0, z1, z2, z3, z4, z5, z6, z7⟩ := ExCells.of Z3.out
        have fz : ∀ o, w3.frozen? ⟨w.heap.size, o, none⟩ = false := fun o => frozen_of_row w3 _ o _ _ Z3.out
        go_wp2
        exact pout_ret rfl rfl (HF0.out.trans (by simp only [closeP, HQ2.out])) X3.out Z3.out T3.out HS3.out.1 hpl htl
/-- the parser's atom, whole -/
theorem atom_w (g : Ptree) (N p tb : Nat) (hp10 : 10 ≤ p)
    (hp : ∀ ts w, ts.length ≤ N → PAt w p tb ts → Glob w → Calls Tryz.prog 111 #[.pointer (some ⟨p, 0, none⟩)] w (POut (g ts) p tb w))
    (ts : List Tok) (w : World) (hN : ts.length ≤ N + 1) (h : PAt w p tb ts) (hg : Glob w) : Calls Tryz.prog 183 #[.pointer (some ⟨p, 0, none⟩)] w (POut (atomP g ts) p tb w) := by
  rcases ts with _ | ⟨⟨k, tt, tn⟩, r⟩
  · exact atom_nil g p tb w h
  · simp only [List.length_cons] at hN
    by_cases h1 : k = 1
    · subst h1; exact atom_word g N p tb hp10 hp tt tn r w (by omega) h hg
    by_cases h2 : k = 2
    · subst h2; exact atom_name g p tb tt tn r w h
    by_cases h3 : k = 3
    · subst h3; exact atom_number g p tb tt tn r w h
    by_cases h4 : k = 4
    · subst h4; exact atom_text g p tb tt tn r w h
    exact atom_paren g N p tb hp10 hp k tt tn r w h1 h2 h3 h4 (by omega) h hg
end Go.Proofs.YtnbckfkdmkbopaaGreatDoor

set_option autoImplicit false
namespace Go.Proofs.YtnbckfkdmkbopaaGreatDoor
open Go Go.RowKit

/-- a tree eats at least as many tokens as it is high -/
def LenP (g : Ptree) : Prop := ∀ ts x r, g ts = some (x, r) → x.hgt + r.length ≤ ts.length
theorem LenP.le {g : Ptree} (h : LenP g) : ∀ ts x r, g ts = some (x, r) → r.length ≤ ts.length := fun ts x r e => by have := h ts x r e; omega
theorem pick_len {k : Int} {ops : List (Str × Int)} {ts r : List Tok} {o : Int} (h : pick k ops ts = some (o, r)) : r.length + 1 = ts.length := by
  induction ops with
  | nil => simp [pick] at h
  | cons a l ih =>
    obtain ⟨s, n⟩ := a
    simp only [pick] at h
    split at h
    next r' hr =>
      simp only [Option.some.injEq, Prod.mk.injEq] at h
      obtain ⟨_, rfl⟩ := h
      exact nextT_len hr
    next => exact ih h
theorem chainL_hgt {part : Ptree} (hp : LenP part) (k : Int) (ops : List (Str × Int)) : ∀ (n : Nat) (x : Ex) (ts : List Tok) (y : Ex) (r : List Tok), chainL part k ops n x ts = some (y, r) → y.hgt + r.length ≤ x.hgt + ts.length := by
  intro n
  induction n with
  | zero => intro x ts y r h; simp [chainL] at h
  | succ n ih =>
    intro x ts y r h
    simp only [chainL] at h
    split at h
    next => simp only [Option.some.injEq, Prod.mk.injEq] at h; obtain ⟨rfl, rfl⟩ := h; exact Nat.le_refl _
    next o ts' h1 =>
      split at h
      next => cases h
      next z ts'' h2 =>
        have a1 := pick_len h1
        have a2 := hp _ _ _ h2
        have a3 := ih _ _ _ _ h
        simp only [Ex.hgt] at a3
        omega
theorem chainP_hgt {part : Ptree} (hp : LenP part) (k : Int) (ops : List (Str × Int)) : LenP (chainP part k ops) := by
  intro ts x r h
  simp only [chainP] at h
  split at h
  next => cases h
  next y ts' h1 =>
    have a1 := hp _ _ _ h1
    have a2 := chainL_hgt hp k ops _ _ _ _ _ h
    omega
theorem unP_hgt {part : Ptree} (hp : LenP part) {k : Int} {ts : List Tok} {x : Ex} {r : List Tok} (h : unP k part ts = some (x, r)) : x.hgt + r.length ≤ ts.length + 1 := by
  simp only [unP] at h
  split at h
  next => cases h
  next y ts' h1 =>
    simp only [Option.some.injEq, Prod.mk.injEq] at h
    obtain ⟨rfl, rfl⟩ := h
    have a1 := hp _ _ _ h1
    simp only [Ex.hgt]
    omega
theorem notTail_hgt {part : Ptree} (hp : LenP part) {x y : Ex} {ts r : List Tok} (h : notTail part x ts = some (y, r)) : y.hgt + r.length ≤ x.hgt + ts.length := by
  simp only [notTail] at h
  split at h
  next k r1 h1 =>
    have a1 := pick_len h1
    split at h
    next => cases h
    next z r2 h2 =>
      simp only [Option.some.injEq, Prod.mk.injEq] at h
      obtain ⟨rfl, rfl⟩ := h
      have a2 := hp _ _ _ h2
      simp only [Ex.hgt]
      omega
  next =>
    split at h
    next =>
      simp only [Option.some.injEq, Prod.mk.injEq] at h
      obtain ⟨rfl, rfl⟩ := h
      exact Nat.le_refl _
    next r1 h1 =>
      have a1 := nextT_len h1
      split at h
      next r2 h2 =>
        have a2 := nextT_len h2
        split at h
        next => cases h
        next r3 h3 =>
          have a3 := nextT_len h3
          simp only [Option.some.injEq, Prod.mk.injEq] at h
          obtain ⟨rfl, rfl⟩ := h
          simp only [Ex.hgt]
          omega
      next =>
        split at h
        next => cases h
        next r3 h3 =>
          have a3 := nextT_len h3
          simp only [Option.some.injEq, Prod.mk.injEq] at h
          obtain ⟨rfl, rfl⟩ := h
          simp only [Ex.hgt]
          omega
theorem notP_hgt {self g3 : Ptree} (hs : LenP self) (h3 : LenP g3) : LenP (notP self g3) := by
  intro ts x r h
  simp only [notP] at h
  split at h
  next r1 h1 =>
    have a1 := nextT_len h1
    have a2 := unP_hgt hs h
    omega
  next =>
    split at h
    next => cases h
    next y ts' h1 =>
      have a1 := h3 _ _ _ h1
      have a2 := notTail_hgt h3 h
      omega
theorem factorP_hgt {self g : Ptree} (hs : LenP self) (hg : LenP g) : LenP (factorP self g) := by
  intro ts x r h
  simp only [factorP] at h
  split at h
  next r1 h1 =>
    have a1 := nextT_len h1
    have a2 := unP_hgt hs h
    omega
  next => exact hg _ _ _ h
theorem closeP_hgt {x y : Ex} {ts r : List Tok} (h : closeP x ts = some (y, r)) : y.hgt + r.length + 1 = x.hgt + ts.length := by
  simp only [closeP] at h
  split at h
  next => cases h
  next r1 h1 =>
    have a1 := nextT_len h1
    simp only [Option.some.injEq, Prod.mk.injEq] at h
    obtain ⟨rfl, rfl⟩ := h
    omega
theorem keyP_hgt {g : Ptree} (hg : LenP g) {s : Str} {ts r : List Tok} {x : Ex} (h : keyP g s ts = some (x, r)) : x.hgt + r.length ≤ ts.length + 1 := by
  simp only [keyP] at h
  split at h
  next => simp only [Option.some.injEq, Prod.mk.injEq] at h; obtain ⟨rfl, rfl⟩ := h; simp only [Ex.hgt]; omega
  split at h
  next => simp only [Option.some.injEq, Prod.mk.injEq] at h; obtain ⟨rfl, rfl⟩ := h; simp only [Ex.hgt]; omega
  split at h
  next => simp only [Option.some.injEq, Prod.mk.injEq] at h; obtain ⟨rfl, rfl⟩ := h; simp only [Ex.hgt]; omega
  split at h
  next => cases h
  next k hk =>
    split at h
    next => cases h
    next r1 h1 =>
      have a1 := nextT_len h1
      split at h
      next r2 h2 =>
        have a2 : r2.length + 1 = r1.length := by
          split at h2
          · exact nextT_len h2
          · cases h2
        have a3 := closeP_hgt h
        simp only [Ex.hgt] at a3
        omega
      next =>
        split at h
        next => cases h
        next y r2 h2 =>
          have a2 := hg _ _ _ h2
          have a3 := closeP_hgt h
          simp only [Ex.hgt] at a3
          omega
theorem atomP_hgt {g : Ptree} (hg : LenP g) : LenP (atomP g) := by
  intro ts x r h
  cases ts with
  | nil => simp [atomP] at h
  | cons t r0 =>
    simp only [atomP] at h
    simp only [List.length_cons]
    split at h
    next => simp only [Option.some.injEq, Prod.mk.injEq] at h; obtain ⟨rfl, rfl⟩ := h; simp only [Ex.hgt]; omega
    split at h
    next => simp only [Option.some.injEq, Prod.mk.injEq] at h; obtain ⟨rfl, rfl⟩ := h; simp only [Ex.hgt]; omega
    split at h
    next =>
      split at h
      next => simp only [Option.some.injEq, Prod.mk.injEq] at h; obtain ⟨rfl, rfl⟩ := h; simp only [Ex.hgt]; omega
      next r1 h1 =>
        have a1 := nextT_len h1
        split at h
        next => cases h
        next u r2 =>
          split at h
          next => simp only [Option.some.injEq, Prod.mk.injEq] at h; obtain ⟨rfl, rfl⟩ := h; simp only [Ex.hgt]; simp only [List.length_cons] at a1; omega
          next => cases h
    split at h
    next => exact keyP_hgt hg h
    next =>
      split at h
      next => cases h
      next r1 h1 =>
        have a1 := nextT_len h1
        split at h
        next => cases h
        next y r2 h2 =>
          have a2 := hg _ _ _ h2
          have a3 := closeP_hgt h
          simp only [List.length_cons] at a1
          omega
theorem pE_hgt : ∀ n l, LenP (pE n l) := by
  intro n
  induction n with
  | zero => intro l ts x r h; simp [pE] at h
  | succ n ih =>
    intro l
    match l with
    | 0 => exact chainP_hgt (ih 1) _ _
    | 1 => exact chainP_hgt (ih 2) _ _
    | 2 => exact notP_hgt (ih 2) (ih 3)
    | 3 => exact chainP_hgt (ih 4) _ _
    | 4 => exact chainP_hgt (ih 5) _ _
    | 5 => exact factorP_hgt (ih 5) (ih 6)
    | l + 6 => exact atomP_hgt (ih 0)
/-- what a level of the parser answers -/
def LevOk (f : Nat) (n l p tb : Nat) : Prop :=
  ∀ ts w, 7 * ts.length + 7 ≤ n + l → PAt w p tb ts → Glob w → Calls Tryz.prog f #[.pointer (some ⟨p, 0, none⟩)] w (POut (pE n l ts) p tb w)
theorem levels (p tb : Nat) (hp10 : 10 ≤ p) : ∀ n, LevOk 111 n 0 p tb ∧ LevOk 148 n 1 p tb ∧ LevOk 167 n 2 p tb ∧ LevOk 177 n 3 p tb ∧ LevOk 181 n 4 p tb ∧ LevOk 182 n 5 p tb ∧ LevOk 183 n 6 p tb := by
  intro n
  induction n with
  | zero => exact ⟨fun ts w h => by omega, fun ts w h => by omega, fun ts w h => by omega, fun ts w h => by omega, fun ts w h => by omega, fun ts w h => by omega, fun ts w h => by omega⟩
  | succ n ih =>
    obtain ⟨i0, i1, i2, i3, i4, i5, i6⟩ := ih
    refine ⟨?_, ?_, ?_, ?_, ?_, ?_, ?_⟩
    · exact fun ts w h hP hG => expr_w (pE n 1) ts.length p tb hp10 (fun ts' w' h' => i1 ts' w' (by omega)) (pE_hgt n 1).le ts w (Nat.le_refl _) hP hG
    · exact fun ts w h hP hG => and_w (pE n 2) ts.length p tb hp10 (fun ts' w' h' => i2 ts' w' (by omega)) (pE_hgt n 2).le ts w (Nat.le_refl _) hP hG
    · exact fun ts w h hP hG => not_w (pE n 2) (pE n 3) ts.length p tb hp10 (fun ts' w' h' => i2 ts' w' (by omega)) (fun ts' w' h' => i3 ts' w' (by omega)) (pE_hgt n 3).le ts w (Nat.le_refl _) hP hG
    · exact fun ts w h hP hG => sum_w (pE n 4) ts.length p tb hp10 (fun ts' w' h' => i4 ts' w' (by omega)) (pE_hgt n 4).le ts w (Nat.le_refl _) hP hG
    · exact fun ts w h hP hG => product_w (pE n 5) ts.length p tb hp10 (fun ts' w' h' => i5 ts' w' (by omega)) (pE_hgt n 5).le ts w (Nat.le_refl _) hP hG
    · exact fun ts w h hP hG => factor_w (pE n 5) (pE n 6) ts.length p tb hp10 (fun ts' w' h' => i5 ts' w' (by omega)) (fun ts' w' h' => i6 ts' w' (by omega)) ts w (Nat.le_refl _) hP hG
    · intro ts w h hP hG
      rcases ts with _ | ⟨t, r⟩
      · exact atom_nil (pE n 0) p tb w hP
      · simp only [List.length_cons] at h
        exact atom_w (pE n 0) r.length p tb hp10 (fun ts' w' h' => i0 ts' w' (by omega)) (t :: r) w (by simp) hP hG
/-- an expression, whole -/
theorem expr_any (p tb : Nat) (hp10 : 10 ≤ p) (ts : List Tok) (w : World) (h : PAt w p tb ts) (hg : Glob w) : Calls Tryz.prog 111 #[.pointer (some ⟨p, 0, none⟩)] w (POut (pFull ts) p tb w) :=
  (levels p tb hp10 (7 * ts.length + 7)).1 ts w (by omega) h hg
end Go.Proofs.YtnbckfkdmkbopaaGreatDoor
