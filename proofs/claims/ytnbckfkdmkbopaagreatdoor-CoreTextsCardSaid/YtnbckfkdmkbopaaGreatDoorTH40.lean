/-
  Plans: what a condition asks. No condition beyond each lemma's own.
-/
import Derived.Test.YtnbckfkdmkbopaaGreatDoorTH28
set_option autoImplicit false
namespace Go.Proofs.YtnbckfkdmkbopaaGreatDoor
open Go Go.RowKit

def Lst (P : Nat → Prop) (n : Nat) : Prop := P n ∧ ∀ m, P m → n ≤ m
theorem lst_ex {P : Nat → Prop} : ∀ (n : Nat), P n → ∃ m, Lst P m := by
  intro n
  induction n using Nat.strongRecOn with
  | ind n ih =>
    intro h
    by_cases hs : ∃ m, m < n ∧ P m
    · obtain ⟨m, hm, hp⟩ := hs
      exact ih m hm hp
    · exact ⟨n, h, fun m hm => Nat.le_of_not_lt fun hl => hs ⟨m, hl, hm⟩⟩
theorem lst_eps {P : Nat → Prop} {n : Nat} (h : P n) : Lst P (Classical.epsilon (Lst P)) := Classical.epsilon_spec (lst_ex n h)
/-- where the search for the first comparison stands -/
def QInv (cs : List Bcol) (w : World) (y : Ex) (tv : Value) (wr : World) (n : Nat) : Prop :=
  ∃ y' E t, y'.hgt ≤ n ∧ questL cs y' = questL cs y ∧ tyL cs y' = some t ∧ wr.heap[w.heap.size]? = some (ExF.obj E) ∧ ExAt wr (fun q => q < w.heap.size) y' E ∧ Chg NoB w wr ∧ wr.heap[w.heap.size + 1]? = some (.cells #[sv [116], tv] 38 (0, 0)) ∧ wr.heap[w.heap.size + 1 + 1]? = some Val.null.obj
theorem bin_of {cs : List Bcol} {y : Ex} {t : Int} (h : tyL cs y = some t) (hk : 5 ≤ y.kind ∧ y.kind ≤ 17) : ∃ k a b, y = .bin k a b := by
  cases y with
  | val v => simp [Ex.kind] at hk
  | col a b => simp [Ex.kind] at hk
  | slot i => simp [Ex.kind] at hk
  | cnt => simp [Ex.kind] at hk
  | un k a =>
    simp only [tyL] at h
    split at h
    · rename_i hu; simp [unK] at hu; simp only [Ex.kind] at hk; omega
    · cases h
  | bin k a b => exact ⟨k, a, b, rfl⟩
theorem bin_ty {cs : List Bcol} {k : Int} {a b : Ex} {t : Int} (h : tyL cs (.bin k a b) = some t) : ∃ s s2, tyL cs a = some s ∧ tyL cs b = some s2 := by
  simp only [tyL] at h
  split at h
  · split at h
    · cases h
    · rename_i s hs
      split at h
      · cases h
      · rename_i s2 hs2
        exact ⟨s, s2, hs, hs2⟩
  · cases h
theorem quest_none {cs : List Bcol} {y : Ex} (h : turnL y.kind = 0) (h16 : y.kind ≠ 16) : questL cs y = none := by
  cases y with
  | bin k a b =>
    simp only [Ex.kind] at h h16
    simp [questL, h, h16]
  | _ => rfl
theorem q_ret3dd {fn : Func} {Q : Ending → World → Prop} {tmps : Array Value} {w : World} {b : Nat} {Z : Val} (V : Val) (h : fn.results = #[.tmp 4, .tmp 5, .cell 6 26]) (hp : tmps.getD 6 undef = .pointer (some ⟨b, 0, none⟩)) (hs : w.heap[b]? = some Z.obj)
    (hQ : ∀ w', Chg (OneP b) w w' → Q (.returned (.tuple #[tmps.getD 4 undef, tmps.getD 5 undef, V.val])) w') :
    bodyPost Tryz.prog fn Q Exit.ret ⟨tmps, []⟩ (((w.setCell ⟨b, 0, none⟩ (.int .i64 V.kind)).setCell ⟨b, 1, none⟩ (.int .i64 V.num)).setCell ⟨b, 2, none⟩ (sv V.str)).drew.drew := by
  have h1 := val_set hs V
  have c1 := chg_set3 (w := w) (b := b) (.int .i64 V.kind) (.int .i64 V.num) (sv V.str)
  generalize World.setCell _ _ (sv V.str) = W at h1 c1 ⊢
  exact q_ret V h hp (show W.drew.drew.heap[b]? = _ from h1) (hQ _ c1.drew.drew)
/-- the two sides of a comparison, in two variables -/
structure QTwo (w : World) (tv : Value) (b8 b9 : Nat) (a b : Ex) (A B : ExF) (wx : World) : Prop where
  n8 : w.heap.size + 1 + 1 < b8
  n9 : w.heap.size + 1 + 1 < b9
  ne : b8 ≠ b9
  h8 : wx.heap[b8]? = some A.obj
  h9 : wx.heap[b9]? = some B.obj
  xa : ExAt wx (fun q => q < w.heap.size) a A
  xb : ExAt wx (fun q => q < w.heap.size) b B
  c : Chg NoB w wx
  tab : wx.heap[w.heap.size + 1]? = some (.cells #[sv [116], tv] 38 (0, 0))
  res : wx.heap[w.heap.size + 1 + 1]? = some Val.null.obj
theorem QTwo.swap {w : World} {tv : Value} {b8 b9 : Nat} {a b : Ex} {A B : ExF} {wc w3 : World} (h : QTwo w tv b8 b9 a b A B wc) (c : Chg NoB wc w3) : QTwo w tv b8 b9 b a B A
    ((((((((((((((((w3.setCell ⟨b8, 0, none⟩ (.int .i64 B.k)).setCell ⟨b8, 1, none⟩ (.int .i64 B.vk)).setCell ⟨b8, 2, none⟩ (.int .i64 B.vn)).setCell ⟨b8, 3, none⟩ (sv B.vs)).setCell ⟨b8, 4, none⟩ (sv B.t)).setCell ⟨b8, 5, none⟩ (sv B.n)).setCell ⟨b8, 6, none⟩ (.int .i64 B.s)).setCell ⟨b8, 7, none⟩ (.slice B.ao B.m B.c)).setCell
      ⟨b9, 0, none⟩ (.int .i64 A.k)).setCell ⟨b9, 1, none⟩ (.int .i64 A.vk)).setCell ⟨b9, 2, none⟩ (.int .i64 A.vn)).setCell ⟨b9, 3, none⟩ (sv A.vs)).setCell ⟨b9, 4, none⟩ (sv A.t)).setCell ⟨b9, 5, none⟩ (sv A.n)).setCell ⟨b9, 6, none⟩ (.int .i64 A.s)).setCell ⟨b9, 7, none⟩ (.slice A.ao A.m A.c)) := by
  have cA := chg_set8 (Chg.refl (OneP b8) w3) (.inl rfl) (.int .i64 B.k) (.int .i64 B.vk) (.int .i64 B.vn) (sv B.vs) (sv B.t) (sv B.n) (.int .i64 B.s) (.slice B.ao B.m B.c)
  have hA := ex_set (c.heap h.h8 (fun h => h)) B
  have hB := cA.heap (c.heap h.h9 (fun h => h)) (fun e => h.ne e.symm)
  generalize ((((((((w3.setCell ⟨b8, 0, none⟩ (.int .i64 B.k)).setCell ⟨b8, 1, none⟩ (.int .i64 B.vk)).setCell ⟨b8, 2, none⟩ (.int .i64 B.vn)).setCell ⟨b8, 3, none⟩ (sv B.vs)).setCell ⟨b8, 4, none⟩ (sv B.t)).setCell ⟨b8, 5, none⟩ (sv B.n)).setCell ⟨b8, 6, none⟩ (.int .i64 B.s)).setCell ⟨b8, 7, none⟩ (.slice B.ao B.m B.c)) = V at cA hA hB ⊢
  have cB := chg_set8 (Chg.refl (OneP b9) V) (.inl rfl) (.int .i64 A.k) (.int .i64 A.vk) (.int .i64 A.vn) (sv A.vs) (sv A.t) (sv A.n) (.int .i64 A.s) (.slice A.ao A.m A.c)
  have hB' := ex_set hB A
  generalize ((((((((V.setCell ⟨b9, 0, none⟩ (.int .i64 A.k)).setCell ⟨b9, 1, none⟩ (.int .i64 A.vk)).setCell ⟨b9, 2, none⟩ (.int .i64 A.vn)).setCell ⟨b9, 3, none⟩ (sv A.vs)).setCell ⟨b9, 4, none⟩ (sv A.t)).setCell ⟨b9, 5, none⟩ (sv A.n)).setCell ⟨b9, 6, none⟩ (.int .i64 A.s)).setCell ⟨b9, 7, none⟩ (.slice A.ao A.m A.c)) = W2 at cB hB' ⊢
  have n8 := h.n8
  have n9 := h.n9
  have lt8 := lt_of_heap h.h8
  exact ⟨n8, n9, h.ne, cB.heap hA (fun e => h.ne e), hB',
    ExAt.chg cB (fun q hq e => by unfold OneP at e; omega) _ _ (ExAt.chg cA (fun q hq e => by unfold OneP at e; omega) _ _ (ExAt.quiet c h.xb)),
    ExAt.chg cB (fun q hq e => by unfold OneP at e; omega) _ _ (ExAt.chg cA (fun q hq e => by unfold OneP at e; omega) _ _ (ExAt.quiet c h.xa)),
    ((h.c.trans c (fun _ h => h.elim)).trans cA (fun q e => .inr (by unfold OneP at e; omega))).trans cB (fun q e => .inr (by unfold OneP at e; omega)),
    cB.heap (cA.heap (c.heap h.tab (fun h => h)) (by unfold OneP; omega)) (by unfold OneP; omega),
    cB.heap (cA.heap (c.heap h.res (fun h => h)) (by unfold OneP; omega)) (by unfold OneP; omega)⟩
set_option maxRecDepth 100000 in
set_option maxHeartbeats 4000000 in
theorem question_any (cs : List Bcol) (hcs : cs.length = 4) (y : Ex) (t : Int) (ht : tyL cs y = some t) (E : ExF) (F G : Nat → Prop) (tb tc : Nat) (w : World) (hx : ExAt w F y E) (hT : TabT w G cs tb) :
    Calls Tryz.prog 19 #[E.val, .agg #[sv [116], .slice (some ⟨tb, 0, none⟩) 4 tc]] w (QOut (questL cs y) w) := by
  have Q0 : Hid (QInv cs w y (.slice (some ⟨tb, 0, none⟩) 4 tc) (((w.alloc E.obj).alloc (.cells #[sv [116], .slice (some ⟨tb, 0, none⟩) 4 tc] 38)).alloc Val.null.obj) y.hgt) := Lib.hid (by
    have X0 : Chg NoB w (((w.alloc E.obj).alloc (.cells #[sv [116], .slice (some ⟨tb, 0, none⟩) 4 tc] 38)).alloc Val.null.obj) := (((Chg.refl NoB w).alloc _).alloc _).alloc _
    refine ⟨y, E, t, Nat.le_refl _, rfl, ht, (hal_old (by simp; omega)).trans ((hal_old (by simp)).trans hal_new), ExAt.quiet X0 (hx.mono fun q _ hl => hl), X0, (hal_old (by simp)).trans (hal_new' (by simp)), hal_new' (by simp)⟩)
  have HT := Lib.hid hT
  have HCS := Lib.hid hcs
  clear hx ht hT hcs
  go_enter Tryz.func19, Tryz.ntmps19
  go_wp2_with fail
  go_loopw [24] (fun _ wr => ∃ n, QInv cs w y (.slice (some ⟨tb, 0, none⟩) 4 tc) wr n) (fun _ wr => Classical.epsilon (Lst (QInv cs w y (.slice (some ⟨tb, 0, none⟩) 4 tc) wr)))
  case atStart => exact ⟨_, Q0.out⟩
  case round =>
    obtain ⟨n0, hq0⟩ := hrel
    obtain ⟨⟨y', E', t', hn, hqe, hty, hbox, hxa, hc, htab, hres⟩, hmin⟩ := lst_eps hq0
    obtain ⟨M, hM⟩ : ∃ M, Classical.epsilon (Lst (QInv cs w y (.slice (some ⟨tb, 0, none⟩) 4 tc) wr)) = M := ⟨_, rfl⟩
    rw [hM] at hn hmin ⊢
    have hMy : M ≤ y'.hgt := hmin _ ⟨y', E', t', Nat.le_refl _, hqe, hty, hbox, hxa, hc, htab, hres⟩
    have HQE := Lib.hid hqe
    have HTY := Lib.hid hty
    have HB := Lib.hid hbox
    have HXA := Lib.hid hxa
    have HC := Lib.hid hc
    have HTA := Lib.hid htab
    have HRE := Lib.hid hres
    have hek := hxa.kind
    clear hq0 hmin hM hqe hty hbox hc htab hres Q0
    obtain ⟨k0, k1, k2, k3, k4, k5, k6, k7⟩ := ExCells.of HB.out
    by_cases h16 : y'.kind = 16
    · obtain ⟨k, a, b, rfl⟩ := bin_of HTY.out (by rw [h16]; decide)
      simp only [Ex.kind] at h16
      subst h16
      obtain ⟨s, s2, hs, _⟩ := bin_ty HTY.out
      obtain ⟨bb, c, A, B, rfl, hb, hF, hrg, hxa1, _⟩ := hxa
      obtain ⟨j0, j1, j2, j3, j4, j5, j6, j7⟩ := ex_range (ex_two hrg).1
      have fz : ∀ o, wr.frozen? ⟨w.heap.size, o, none⟩ = false := fun o => frozen_of_row wr _ o _ _ HB.out
      have cS := chg_set8 (Chg.refl (OneP w.heap.size) wr) (.inl rfl) (.int .i64 A.k) (.int .i64 A.vk) (.int .i64 A.vn) (sv A.vs) (sv A.t) (sv A.n) (.int .i64 A.s) (.slice A.ao A.m A.c)
      have HN : Hid (QInv cs w y (.slice (some ⟨tb, 0, none⟩) 4 tc) ((((((((wr.setCell ⟨w.heap.size, 0, none⟩ (.int .i64 A.k)).setCell ⟨w.heap.size, 1, none⟩ (.int .i64 A.vk)).setCell ⟨w.heap.size, 2, none⟩ (.int .i64 A.vn)).setCell ⟨w.heap.size, 3, none⟩ (sv A.vs)).setCell ⟨w.heap.size, 4, none⟩ (sv A.t)).setCell ⟨w.heap.size, 5, none⟩ (sv A.n)).setCell ⟨w.heap.size, 6, none⟩ (.int .i64 A.s)).setCell ⟨w.heap.size, 7, none⟩ (.slice A.ao A.m A.c)) a.hgt) := Lib.hid
        ⟨a, A, s, Nat.le_refl _, by rw [← HQE.out]; simp [questL], hs, ex_set HB.out A, ExAt.chg cS (fun q hq e => by unfold OneP at e; omega) _ _ hxa1, HC.out.trans cS (fun q e => .inr (by unfold OneP at e; omega)), cS.heap HTA.out (by unfold OneP; omega), cS.heap HRE.out (by unfold OneP; omega)⟩
      have hlt : a.hgt < M := by simp only [Ex.hgt] at hn hMy; omega
      have HLT := Lib.hid hlt
      clear hn hMy hlt hs hb hF hrg hxa1 cS hek
      go_wp2_with fail
      go_round
      case rel => exact ⟨_, HN.out⟩
      case measure => exact Nat.lt_of_le_of_lt ((lst_eps HN.out).2 _ HN.out) HLT.out
    · have hne : (y'.kind == 16) = false := by simpa using h16
      clear hn hMy hxa
      rw [hek] at k0
      by_cases htn : turnL y'.kind = 0
      · have HN : Hid (questL cs y = none) := Lib.hid (by rw [← HQE.out]; exact quest_none htn h16)
        have HTN := Lib.hid htn
        clear h16 htn hek
        go_wp2_with fail
        refine (turned_any y'.kind _).mono ?_
        rw [HTN.out]
        rintro e w2 ⟨rfl, c2⟩
        have X2 := Lib.hid (HC.out.trans c2 (fun _ h => h.elim))
        have Z2 := Lib.hid (c2.heap HRE.out (fun h => h))
        clear c2
        obtain ⟨z0, z1, z2⟩ := val_cells Z2.out
        have fz : ∀ o, w2.frozen? ⟨w.heap.size + 1 + 1, o, none⟩ = false := fun o => frozen_of_row w2 _ o _ _ Z2.out
        go_wp2_with fail
        exact q_ret3 Val.null rfl rfl Z2.out (fun w' c => QOut.no HN.out (X2.out.trans c (fun k h => .inr (by unfold OneP at h; omega))))
      · obtain ⟨k, a, b, rfl⟩ := bin_of HTY.out (by have := turn_lo htn; unfold turnL at htn; omega)
        obtain ⟨s, s2, hs, hs2⟩ := bin_ty HTY.out
        have hxa := HXA.out
        obtain ⟨bb, c, A, B, rfl, hb, hF, hrg, hxa1, hxa2⟩ := hxa
        simp only [Ex.kind] at h16 htn hne k0
        have hqs : Hid (questL cs y = if isSlot a then cmpQ cs k a b else cmpQ cs (turnL k) b a) := Lib.hid (by rw [← HQE.out]; simp [questL, h16, htn])
        have HTN := Lib.hid htn
        have hnt : (turnL k == 0) = false := by simpa using htn
        have HS1 := Lib.hid hs
        have HS2 := Lib.hid hs2
        have HRG := Lib.hid hrg
        have HX1 := Lib.hid hxa1
        have HX2 := Lib.hid hxa2
        clear h16 htn hek hs hs2 hrg hxa1 hxa2
        go_wp2_with fail
        refine (turned_any k _).mono ?_
        rintro e w2 ⟨rfl, c2⟩
        have X2 := Lib.hid (HC.out.trans c2 (fun _ h => h.elim))
        have Z2 := Lib.hid (c2.heap HRE.out (fun h => h))
        have T2 := Lib.hid (c2.heap HTA.out (fun h => h))
        have B2 := Lib.hid (c2.heap HB.out (fun h => h))
        have A2 := Lib.hid (ExAt.quiet c2 HX1.out)
        have BB2 := Lib.hid (ExAt.quiet c2 HX2.out)
        have R2 := range_of_heap (c2.keep bb hb (fun h => h)) HRG.out
        have hs2' := c2.size
        clear c2 k0 k1 k2 k3 k4 k5 k6 k7
        obtain ⟨k0, k1, k2, k3, k4, k5, k6, k7⟩ := ExCells.of B2.out
        obtain ⟨j0, j1, j2, j3, j4, j5, j6, j7⟩ := ex_range (ex_two R2).1
        obtain ⟨i0, i1, i2, i3, i4, i5, i6, i7⟩ := ex_range (ex_two R2).2
        have hbb : bb < w2.heap.size := by have := X2.out.size; omega
        have hss : w.heap.size < w2.heap.size := lt_of_heap B2.out
        have hbb1 : bb < w2.heap.size + 1 := by omega
        have hss1 : w.heap.size < w2.heap.size + 1 := by omega
        clear R2
        go_upto_region 5 with (fail)
        go_cut [7, 8, 9] (fun s7 s8 s9 wx => ∃ b8 b9, s7 = .int .i64 k ∧ s8 = .pointer (some ⟨b8, 0, none⟩) ∧ s9 = .pointer (some ⟨b9, 0, none⟩) ∧ Hid (QTwo w (.slice (some ⟨tb, 0, none⟩) 4 tc) b8 b9 a b A B wx))
        case first =>
          have lts : w.heap.size + 1 + 1 < w2.heap.size := lt_of_heap Z2.out
          have T8 : ∀ (P Q : ExF), Chg NoB w2 ((w2.alloc P.obj).alloc Q.obj).drew := fun P Q => (((Chg.refl NoB w2).alloc _).alloc _).drew
          have T9 : Hid (∀ (P Q : ExF) (b8 b9 : Nat), b8 ≠ b9 → w.heap.size + 1 + 1 < b8 → w.heap.size + 1 + 1 < b9 → ((w2.alloc P.obj).alloc Q.obj).heap[b8]? = some A.obj → ((w2.alloc P.obj).alloc Q.obj).heap[b9]? = some B.obj → QTwo w (.slice (some ⟨tb, 0, none⟩) 4 tc) b8 b9 a b A B ((w2.alloc P.obj).alloc Q.obj).drew) := Lib.hid fun P Q b8 b9 hne h8 h9 q8 q9 =>
            ⟨h8, h9, hne, q8, q9, ExAt.quiet (T8 P Q) A2.out, ExAt.quiet (T8 P Q) BB2.out, X2.out.trans (T8 P Q) (fun _ h => h.elim), (T8 P Q).heap T2.out (fun h => h), (T8 P Q).heap Z2.out (fun h => h)⟩
          clear T8 lts
          go_region
          all_goals
            go_wp2
            go_meet
            first
              | exact ⟨_, _, rfl, rfl, rfl, Lib.hid (T9.out A B _ _ (by omega) (by have := lt_of_heap Z2.out; omega) (by have := lt_of_heap Z2.out; omega) ((hal_old (by simp)).trans hal_new) (hal_new' (by simp)))⟩
              | exact ⟨_, _, rfl, rfl, rfl, Lib.hid (T9.out B A _ _ (by omega) (by have := lt_of_heap Z2.out; omega) (by have := lt_of_heap Z2.out; omega) (hal_new' (by simp)) ((hal_old (by simp)).trans hal_new))⟩
        case rest =>
          obtain ⟨b8, b9, rfl, rfl, rfl, HQ2⟩ := hcut
          clear A2 BB2 B2 T2 Z2 X2 hs2' hbb hss hbb1 hss1 k0 k1 k2 k3 k4 k5 k6 k7 j0 j1 j2 j3 j4 j5 j6 j7 i0 i1 i2 i3 i4 i5 i6 i7 hne hnt hF hb HRG HX1 HX2 HXA HC HTA HRE HB
          obtain ⟨k0, k1, k2, k3, k4, k5, k6, k7⟩ := ExCells.of HQ2.out.h8
          obtain ⟨j0, j1, j2, j3, j4, j5, j6, j7⟩ := ExCells.of HQ2.out.h9
          go_upto_if 48 with (fail)
          go_cut [7] (fun s7 wx => ∃ (k' : Int) (a' b' : Ex) (A' B' : ExF), s7 = .int .i64 k' ∧ Hid (QTwo w (.slice (some ⟨tb, 0, none⟩) 4 tc) b8 b9 a' b' A' B' wx ∧ cmpQ cs k' a' b' = questL cs y ∧ (∃ s, tyL cs a' = some s) ∧ (∃ s, tyL cs b' = some s)))
          case first =>
            by_cases his : isSlot a = true
            · have hk24 : A.k = 24 := by
                cases a with
                | slot i => have := HQ2.out.xa; subst this; rfl
                | _ => simp [isSlot] at his
              have hb24 : (A.k != 24) = false := by simp [hk24]
              have HH : Hid (cmpQ cs k a b = questL cs y) := Lib.hid (by rw [hqs.out, if_pos his])
              clear his hk24
              rw [hb24]
              go_wp2
              go_meet
              exact ⟨k, a, b, A, B, rfl, Lib.hid ⟨HQ2.out, HH.out, ⟨s, HS1.out⟩, ⟨s2, HS2.out⟩⟩⟩
            · have hk24 : ¬ A.k = 24 := by
                have hxk := HQ2.out.xa.kind
                have hty := HS1.out
                rw [hxk]
                cases a with
                | slot i => simp [isSlot] at his
                | val v => simp [Ex.kind]
                | col a b => simp [tyL] at hty
                | cnt => simp [tyL] at hty
                | un k a =>
                  simp only [tyL] at hty
                  split at hty
                  · rename_i hu; intro h; simp only [Ex.kind] at h; subst h; simp [unK] at hu
                  · cases hty
                | bin k a b =>
                  simp only [tyL] at hty
                  split at hty
                  · rename_i hu; intro h; simp only [Ex.kind] at h; subst h; simp [binK] at hu
                  · cases hty
              have hb24 : (A.k != 24) = true := by simpa using hk24
              have HH : Hid (cmpQ cs (turnL k) b a = questL cs y) := Lib.hid (by rw [hqs.out, if_neg his])
              clear his hk24
              rw [hb24]
              go_wp2_with fail
              have HSS : Hid (∀ V, Chg NoB wc V → V.cell? ⟨b8, 0, none⟩ = some (.int .i64 A.k) ∧ V.cell? ⟨b8, 1, none⟩ = some (.int .i64 A.vk) ∧ V.cell? ⟨b8, 2, none⟩ = some (.int .i64 A.vn) ∧ V.cell? ⟨b8, 3, none⟩ = some (sv A.vs) ∧ V.cell? ⟨b8, 4, none⟩ = some (sv A.t) ∧ V.cell? ⟨b8, 5, none⟩ = some (sv A.n) ∧ V.cell? ⟨b8, 6, none⟩ = some (.int .i64 A.s) ∧ V.cell? ⟨b8, 7, none⟩ = some (.slice A.ao A.m A.c) ∧
                  V.cell? ⟨b9, 0, none⟩ = some (.int .i64 B.k) ∧ V.cell? ⟨b9, 1, none⟩ = some (.int .i64 B.vk) ∧ V.cell? ⟨b9, 2, none⟩ = some (.int .i64 B.vn) ∧ V.cell? ⟨b9, 3, none⟩ = some (sv B.vs) ∧ V.cell? ⟨b9, 4, none⟩ = some (sv B.t) ∧ V.cell? ⟨b9, 5, none⟩ = some (sv B.n) ∧ V.cell? ⟨b9, 6, none⟩ = some (.int .i64 B.s) ∧ V.cell? ⟨b9, 7, none⟩ = some (.slice B.ao B.m B.c)) := Lib.hid fun V cV => by
                obtain ⟨k0, k1, k2, k3, k4, k5, k6, k7⟩ := ExCells.of (cV.heap HQ2.out.h8 (fun h => h))
                obtain ⟨j0, j1, j2, j3, j4, j5, j6, j7⟩ := ExCells.of (cV.heap HQ2.out.h9 (fun h => h))
                exact ⟨k0, k1, k2, k3, k4, k5, k6, k7, j0, j1, j2, j3, j4, j5, j6, j7⟩
              refine wp_region_lexU (fun V => V.cell? ⟨b8, 0, none⟩ = some (.int .i64 A.k) ∧ V.cell? ⟨b8, 1, none⟩ = some (.int .i64 A.vk) ∧ V.cell? ⟨b8, 2, none⟩ = some (.int .i64 A.vn) ∧ V.cell? ⟨b8, 3, none⟩ = some (sv A.vs) ∧ V.cell? ⟨b8, 4, none⟩ = some (sv A.t) ∧ V.cell? ⟨b8, 5, none⟩ = some (sv A.n) ∧ V.cell? ⟨b8, 6, none⟩ = some (.int .i64 A.s) ∧ V.cell? ⟨b8, 7, none⟩ = some (.slice A.ao A.m A.c) ∧
                  V.cell? ⟨b9, 0, none⟩ = some (.int .i64 B.k) ∧ V.cell? ⟨b9, 1, none⟩ = some (.int .i64 B.vk) ∧ V.cell? ⟨b9, 2, none⟩ = some (.int .i64 B.vn) ∧ V.cell? ⟨b9, 3, none⟩ = some (sv B.vs) ∧ V.cell? ⟨b9, 4, none⟩ = some (sv B.t) ∧ V.cell? ⟨b9, 5, none⟩ = some (sv B.n) ∧ V.cell? ⟨b9, 6, none⟩ = some (.int .i64 B.s) ∧ V.cell? ⟨b9, 7, none⟩ = some (.slice B.ao B.m B.c)) [5, 6] [1, 5, 6] [0, 2, 3, 1, 4, 5, 6] (by kernel_rfl) (by kernel_rfl) (HSS.out _ (Chg.refl _ _).drew) ?_
              iterate 3
                refine' lexU_free (v := _) rfl rfl rfl ?_ (fun _ _ _ h => h) ?_
                rotate_left
                · rintro W ⟨h1, h2, h3, h4, h5, h6, h7, h8, h9, h10, h11, h12, h13, h14, h15, h16⟩
                  go_simp
                  with_reducible rfl
                try simp only [Act.put, List.setIfInBounds_toArray, List.set_cons_zero, List.set_cons_succ]
              refine lexU_op rfl rfl rfl (fun K hK => ?_)
              go_simp
              refine (turned_any k _).mono ?_
              rintro e w3 ⟨rfl, c3⟩
              have C3 := Lib.hid ((Chg.refl NoB wc).drew.trans c3 (fun _ h => h.elim))
              clear c3 k0 k1 k2 k3 k4 k5 k6 k7 j0 j1 j2 j3 j4 j5 j6 j7
              refine hK _ _ (fun _ => HSS.out _ C3.out) ?_
              clear hK K
              try simp only [Act.put, List.setIfInBounds_toArray, List.set_cons_zero, List.set_cons_succ]
              iterate 1
                refine' lexU_free (v := _) rfl rfl rfl ?_ (fun _ _ _ h => h) ?_
                rotate_left
                · rintro W ⟨h1, h2, h3, h4, h5, h6, h7, h8, h9, h10, h11, h12, h13, h14, h15, h16⟩
                  go_simp
                  with_reducible rfl
                try simp only [Act.put, List.setIfInBounds_toArray, List.set_cons_zero, List.set_cons_succ]
              have H8 := Lib.hid (C3.out.heap HQ2.out.h8 (fun h => h))
              have H9 := Lib.hid (C3.out.heap HQ2.out.h9 (fun h => h))
              obtain ⟨k0, k1, k2, k3, k4, k5, k6, k7, j0, j1, j2, j3, j4, j5, j6, j7⟩ := HSS.out _ C3.out
              have fz8 : ∀ o, w3.frozen? ⟨b8, o, none⟩ = false := fun o => frozen_of_row w3 _ o _ _ H8.out
              have fz9 : ∀ o, w3.frozen? ⟨b9, o, none⟩ = false := fun o => frozen_of_row w3 _ o _ _ H9.out
              have n1 : ¬ b8 = b9 := HQ2.out.ne
              have n2 : ¬ b9 = b8 := fun h => n1 h.symm
              refine lexU_op rfl rfl rfl (fun K hK => ?_)
              go_simp
              refine hK _ _ (fun h => by cases h) ?_
              clear hK K
              try simp only [Act.put, List.setIfInBounds_toArray, List.set_cons_zero, List.set_cons_succ]
              refine lexU_op rfl rfl rfl (fun K hK => ?_)
              go_simp
              refine hK _ _ (fun h => by cases h) ?_
              clear hK K
              try simp only [Act.put, List.setIfInBounds_toArray, List.set_cons_zero, List.set_cons_succ]
              refine lexU_nil ?_
              have SW := Lib.hid (HQ2.out.swap C3.out)
              clear k0 k1 k2 k3 k4 k5 k6 k7 j0 j1 j2 j3 j4 j5 j6 j7 fz8 fz9 n1 n2
              go_wp2
              go_meet
              exact ⟨turnL k, b, a, B, A, rfl, Lib.hid ⟨SW.out, HH.out, ⟨s2, HS2.out⟩, ⟨s, HS1.out⟩⟩⟩
          case rest =>
            obtain ⟨k', a', b', A', B', rfl, HQ3⟩ := hcut
            obtain ⟨hq3, hcq, ⟨sa, hsa⟩, ⟨sb, hsb⟩⟩ := HQ3.out
            have HQ := Lib.hid hq3
            have HCQ := Lib.hid hcq
            have HSA := Lib.hid hsa
            have HSB := Lib.hid hsb
            clear HQ3 HQ2 hq3 hcq hsa hsb k0 k1 k2 k3 k4 k5 k6 k7 j0 j1 j2 j3 j4 j5 j6 j7 HS1 HS2 hqs HTN HTY HQE
            obtain ⟨j0, j1, j2, j3, j4, j5, j6, j7⟩ := ExCells.of HQ.out.h9
            go_wp2_with fail
            refine (lit_any cs b' sb HSB.out B' _ _ HQ.out.xb).mono ?_
            rintro e w4 ⟨c4, v, rfl, hv⟩
            obtain ⟨r, hr⟩ : ∃ r, litL b' = r := ⟨_, rfl⟩
            have HLit := Lib.hid hr
            rw [hr] at hv ⊢
            have HVV := Lib.hid hv
            have C5 : Hid (Chg NoB _ (w4.alloc v.obj)) := Lib.hid (c4.alloc v.obj)
            have X5 := Lib.hid (HQ.out.c.trans C5.out (fun _ h => h.elim))
            have H85 := Lib.hid (C5.out.heap HQ.out.h8 (fun h => h))
            have T5 := Lib.hid (C5.out.heap HQ.out.tab (fun h => h))
            have R5 := Lib.hid (C5.out.heap HQ.out.res (fun h => h))
            have XA5 := Lib.hid (ExAt.quiet C5.out HQ.out.xa)
            have V5 : Hid ((w4.alloc v.obj).heap[w4.heap.size]? = some v.obj) := Lib.hid hal_new
            have TT5 := Lib.hid (HT.out.quiet X5.out)
            clear c4 hr hv j0 j1 j2 j3 j4 j5 j6 j7
            go_wp2_with fail
            generalize hW5 : w4.alloc _ = W5
            rw [show w4.alloc v.obj = W5 from hW5] at X5 H85 T5 R5 XA5 V5 TT5
            clear hW5 C5
            have HS5 : Hid (∀ V, Chg NoB W5 V → V.cell? ⟨b8, 0, none⟩ = some (.int .i64 A'.k) ∧ V.cell? ⟨b8, 6, none⟩ = some (.int .i64 A'.s) ∧ V.cell? ⟨b8, 7, none⟩ = some (.slice A'.ao A'.m A'.c) ∧ V.cell? ⟨w.heap.size + 1, 1, none⟩ = some (.slice (some ⟨tb, 0, none⟩) 4 tc) ∧ V.cell? ⟨w4.heap.size, 0, none⟩ = some (.int .i64 v.kind) ∧ (∀ (i : Nat) (d : Bcol), cs[i]? = some d → V.cell? ⟨tb, i * 4 + 1, none⟩ = some (.int .i64 d.ty))) := Lib.hid fun V cV => by
              obtain ⟨a0, _, _, _, _, _, a6, a7⟩ := ExCells.of (cV.heap H85.out (fun h => h))
              exact ⟨a0, a6, a7, cell_of_row V _ 1 _ _ _ (cV.heap T5.out (fun h => h)), (val_cells (cV.heap V5.out (fun h => h))).1, (TT5.out.quiet cV).ty⟩
            obtain ⟨z0, z1, z2⟩ := val_cells R5.out
            have fz : ∀ o, W5.frozen? ⟨w.heap.size + 1 + 1, o, none⟩ = false := fun o => frozen_of_row W5 _ o _ _ R5.out
            rcases r with _ | c0
            · simp only [Option.isSome_none]
              refine wp_region_lex (fun V => V.cell? ⟨b8, 0, none⟩ = some (.int .i64 A'.k) ∧ V.cell? ⟨b8, 6, none⟩ = some (.int .i64 A'.s) ∧ V.cell? ⟨b8, 7, none⟩ = some (.slice A'.ao A'.m A'.c) ∧ V.cell? ⟨w.heap.size + 1, 1, none⟩ = some (.slice (some ⟨tb, 0, none⟩) 4 tc) ∧ V.cell? ⟨w4.heap.size, 0, none⟩ = some (.int .i64 v.kind) ∧ (∀ (i : Nat) (d : Bcol), cs[i]? = some d → V.cell? ⟨tb, i * 4 + 1, none⟩ = some (.int .i64 d.ty))) 99 [] [0, 1, 2, 3, 4, 5, 6, 7, 8, 9, 10, 11, 12, 13, 14, 15, 16, 17, 18, 19, 20, 21, 22, 23, 24, 25, 26, 27, 28, 29, 30, 31, 32, 33, 34, 35, 36, 37] (by kernel_rfl) (by kernel_rfl) (HS5.out _ (Chg.refl _ _).drew) ?_
              iterate 3
                refine' lex_free (v := _) rfl rfl rfl ?_ (fun _ _ _ h => h) ?_
                rotate_left
                · rintro W ⟨h1, h2, h3, h4, h5, h6⟩
                  go_simp
                  with_reducible rfl
                try simp only [Act.put, List.setIfInBounds_toArray, List.set_cons_zero, List.set_cons_succ]
              iterate 3
                refine lex_skip rfl rfl rfl (fun _ _ _ h => h) ?_
                try simp only [Act.put, List.setIfInBounds_toArray, List.set_cons_zero, List.set_cons_succ]
              iterate 2
                refine' lex_free (v := _) rfl rfl rfl ?_ (fun _ _ _ h => h) ?_
                rotate_left
                · rintro W ⟨h1, h2, h3, h4, h5, h6⟩
                  go_simp
                  with_reducible rfl
                try simp only [Act.put, List.setIfInBounds_toArray, List.set_cons_zero, List.set_cons_succ]
              iterate 4
                refine lex_skip rfl rfl rfl (fun _ _ _ h => h) ?_
                try simp only [Act.put, List.setIfInBounds_toArray, List.set_cons_zero, List.set_cons_succ]
              iterate 2
                refine' lex_free (v := _) rfl rfl rfl ?_ (fun _ _ _ h => h) ?_
                rotate_left
                · rintro W ⟨h1, h2, h3, h4, h5, h6⟩
                  go_simp
                  with_reducible rfl
                try simp only [Act.put, List.setIfInBounds_toArray, List.set_cons_zero, List.set_cons_succ]
              iterate 3
                refine lex_skip rfl rfl rfl (fun _ _ _ h => h) ?_
                try simp only [Act.put, List.setIfInBounds_toArray, List.set_cons_zero, List.set_cons_succ]
              iterate 2
                refine' lex_free (v := _) rfl rfl rfl ?_ (fun _ _ _ h => h) ?_
                rotate_left
                · rintro W ⟨h1, h2, h3, h4, h5, h6⟩
                  go_simp
                  with_reducible rfl
                try simp only [Act.put, List.setIfInBounds_toArray, List.set_cons_zero, List.set_cons_succ]
              iterate 6
                refine lex_skip rfl rfl rfl (fun _ _ _ h => h) ?_
                try simp only [Act.put, List.setIfInBounds_toArray, List.set_cons_zero, List.set_cons_succ]
              iterate 2
                refine' lex_free (v := _) rfl rfl rfl ?_ (fun _ _ _ h => h) ?_
                rotate_left
                · rintro W ⟨h1, h2, h3, h4, h5, h6⟩
                  go_simp
                  with_reducible rfl
                try simp only [Act.put, List.setIfInBounds_toArray, List.set_cons_zero, List.set_cons_succ]
              iterate 10
                refine lex_skip rfl rfl rfl (fun _ _ _ h => h) ?_
                try simp only [Act.put, List.setIfInBounds_toArray, List.set_cons_zero, List.set_cons_succ]
              iterate 1
                refine' lex_free (v := _) rfl rfl rfl ?_ (fun _ _ _ h => h) ?_
                rotate_left
                · rintro W ⟨h1, h2, h3, h4, h5, h6⟩
                  go_simp
                  with_reducible rfl
                try simp only [Act.put, List.setIfInBounds_toArray, List.set_cons_zero, List.set_cons_succ]
              refine lex_nil ?_
              go_wp2_with fail
              exact q_ret3d Val.null rfl rfl R5.out (fun w' c => QOut.no (by rw [← HCQ.out]; unfold cmpQ; rw [HLit.out]; cases a' <;> rfl) (X5.out.trans c (fun k h => .inr (by unfold OneP at h; omega))))
            · obtain rfl := HVV.out _ rfl
              simp only [Option.isSome_some]
              by_cases his : isSlot a' = true
              · obtain ⟨n, d, rfl, hd⟩ : ∃ (n : Nat) (d : Bcol), a' = .slot n ∧ cs[n]? = some d := by
                  have hty := HSA.out
                  cases a' with
                  | slot i =>
                    simp only [tyL] at hty
                    split at hty
                    · rename_i hi
                      obtain ⟨d, hd, _⟩ := Option.map_eq_some_iff.1 hty
                      obtain ⟨n, rfl⟩ := Int.eq_ofNat_of_zero_le hi
                      exact ⟨n, d, rfl, by simpa using hd⟩
                    · cases hty
                  | _ => simp [isSlot] at his
                have hA : A' = ⟨24, 0, 0, [], [], [], n, none, 0, 0⟩ := XA5.out
                subst hA
                have hn4 : n < 4 := by have := (List.getElem?_eq_some_iff.1 hd).1; have := HCS.out; omega
                have hni : (n : Int) < 4 := by omega
                have hni2 : ¬ (4 : Int) ≤ n := by omega
                have HS6 : Hid (∀ V, Chg NoB W5 V → V.cell? ⟨b8, 0, none⟩ = some (.int .i64 24) ∧ V.cell? ⟨b8, 6, none⟩ = some (.int .i64 n) ∧ V.cell? ⟨b8, 7, none⟩ = some nilS ∧ V.cell? ⟨w.heap.size + 1, 1, none⟩ = some (.slice (some ⟨tb, 0, none⟩) 4 tc) ∧ V.cell? ⟨w4.heap.size, 0, none⟩ = some (.int .i64 v.kind) ∧ V.cell? ⟨tb, n * 4 + 1, none⟩ = some (.int .i64 d.ty)) := Lib.hid fun V cV => by
                  obtain ⟨q1, q2, q3, q4, q5, q6⟩ := HS5.out V cV
                  exact ⟨q1, q2, q3, q4, q5, q6 n d hd⟩
                obtain ⟨q, hq⟩ : ∃ q, (d.ty != v.kind) = q := ⟨_, rfl⟩
                have HCM : Hid (cmpQ cs k' (.slot n) b' = if q then none else some (n, k', v)) := Lib.hid (by
                  unfold cmpQ
                  rw [HLit.out]
                  simp only [Int.toNat_natCast, hd, Option.map_some]
                  rw [← hq]
                  by_cases hk : d.ty = v.kind
                  · simp [hk]
                  · simp [hk])
                clear his hd hn4
                cases q with
                | true =>
                  refine wp_region_lex (fun V => V.cell? ⟨b8, 0, none⟩ = some (.int .i64 24) ∧ V.cell? ⟨b8, 6, none⟩ = some (.int .i64 n) ∧ V.cell? ⟨b8, 7, none⟩ = some nilS ∧ V.cell? ⟨w.heap.size + 1, 1, none⟩ = some (.slice (some ⟨tb, 0, none⟩) 4 tc) ∧ V.cell? ⟨w4.heap.size, 0, none⟩ = some (.int .i64 v.kind) ∧ V.cell? ⟨tb, n * 4 + 1, none⟩ = some (.int .i64 d.ty)) 99 [] [0, 1, 2, 3, 4, 5, 6, 7, 8, 9, 10, 11, 12, 13, 14, 15, 16, 17, 18, 19, 20, 21, 22, 23, 24, 25, 26, 27, 28, 29, 30, 31, 32, 33, 34, 35, 36, 37] (by kernel_rfl) (by kernel_rfl) (HS6.out _ (Chg.refl _ _).drew) ?_
                  iterate 3
                    refine' lex_free (v := _) rfl rfl rfl ?_ (fun _ _ _ h => h) ?_
                    rotate_left
                    · rintro W ⟨h1, h2, h3, h4, h5, h6⟩
                      go_simp
                      with_reducible rfl
                    try simp only [Act.put, List.setIfInBounds_toArray, List.set_cons_zero, List.set_cons_succ]
                  iterate 3
                    refine' lex_freeG (v := _) rfl rfl rfl ?_ (fun _ _ _ h => h) ?_
                    rotate_left
                    · rintro W ⟨h1, h2, h3, h4, h5, h6⟩
                      go_simp
                      with_reducible rfl
                    try simp only [Act.put, List.setIfInBounds_toArray, List.set_cons_zero, List.set_cons_succ]
                  iterate 2
                    refine' lex_free (v := _) rfl rfl rfl ?_ (fun _ _ _ h => h) ?_
                    rotate_left
                    · rintro W ⟨h1, h2, h3, h4, h5, h6⟩
                      go_simp
                      with_reducible rfl
                    try simp only [Act.put, List.setIfInBounds_toArray, List.set_cons_zero, List.set_cons_succ]
                  iterate 4
                    refine' lex_freeG (v := _) rfl rfl rfl ?_ (fun _ _ _ h => h) ?_
                    rotate_left
                    · rintro W ⟨h1, h2, h3, h4, h5, h6⟩
                      go_simp
                      with_reducible rfl
                    try simp only [Act.put, List.setIfInBounds_toArray, List.set_cons_zero, List.set_cons_succ]
                  iterate 2
                    refine' lex_free (v := _) rfl rfl rfl ?_ (fun _ _ _ h => h) ?_
                    rotate_left
                    · rintro W ⟨h1, h2, h3, h4, h5, h6⟩
                      go_simp
                      with_reducible rfl
                    try simp only [Act.put, List.setIfInBounds_toArray, List.set_cons_zero, List.set_cons_succ]
                  iterate 3
                    refine' lex_freeG (v := _) rfl rfl rfl ?_ (fun _ _ _ h => h) ?_
                    rotate_left
                    · rintro W ⟨h1, h2, h3, h4, h5, h6⟩
                      go_simp
                      with_reducible rfl
                    try simp only [Act.put, List.setIfInBounds_toArray, List.set_cons_zero, List.set_cons_succ]
                  iterate 2
                    refine' lex_free (v := _) rfl rfl rfl ?_ (fun _ _ _ h => h) ?_
                    rotate_left
                    · rintro W ⟨h1, h2, h3, h4, h5, h6⟩
                      go_simp
                      with_reducible rfl
                    try simp only [Act.put, List.setIfInBounds_toArray, List.set_cons_zero, List.set_cons_succ]
                  iterate 6
                    refine' lex_freeG (v := _) rfl rfl rfl ?_ (fun _ _ _ h => h) ?_
                    rotate_left
                    · rintro W ⟨h1, h2, h3, h4, h5, h6⟩
                      go_simp
                      with_reducible rfl
                    try simp only [Act.put, List.setIfInBounds_toArray, List.set_cons_zero, List.set_cons_succ]
                  iterate 2
                    refine' lex_free (v := _) rfl rfl rfl ?_ (fun _ _ _ h => h) ?_
                    rotate_left
                    · rintro W ⟨h1, h2, h3, h4, h5, h6⟩
                      go_simp
                      with_reducible rfl
                    try simp only [Act.put, List.setIfInBounds_toArray, List.set_cons_zero, List.set_cons_succ]
                  iterate 10
                    refine' lex_freeG (v := _) rfl rfl rfl ?_ (fun _ _ _ h => h) ?_
                    rotate_left
                    · rintro W ⟨h1, h2, h3, h4, h5, h6⟩
                      go_simp
                      with_reducible rfl
                    try simp only [Act.put, List.setIfInBounds_toArray, List.set_cons_zero, List.set_cons_succ]
                  iterate 1
                    refine' lex_free (v := _) rfl rfl rfl ?_ (fun _ _ _ h => h) ?_
                    rotate_left
                    · rintro W ⟨h1, h2, h3, h4, h5, h6⟩
                      go_simp
                      with_reducible rfl
                    try simp only [Act.put, List.setIfInBounds_toArray, List.set_cons_zero, List.set_cons_succ]
                  refine lex_nil ?_
                  go_wp2_with fail
                  exact q_ret3d Val.null rfl rfl R5.out (fun w' c => QOut.no (by rw [← HCQ.out]; rw [HCM.out]; rfl) (X5.out.trans c (fun k h => .inr (by unfold OneP at h; omega))))
                | false =>
                  refine wp_region_lex (fun V => V.cell? ⟨b8, 0, none⟩ = some (.int .i64 24) ∧ V.cell? ⟨b8, 6, none⟩ = some (.int .i64 n) ∧ V.cell? ⟨b8, 7, none⟩ = some nilS ∧ V.cell? ⟨w.heap.size + 1, 1, none⟩ = some (.slice (some ⟨tb, 0, none⟩) 4 tc) ∧ V.cell? ⟨w4.heap.size, 0, none⟩ = some (.int .i64 v.kind) ∧ V.cell? ⟨tb, n * 4 + 1, none⟩ = some (.int .i64 d.ty)) 99 [] [0, 1, 2, 3, 4, 5, 6, 7, 8, 9, 10, 11, 12, 13, 14, 15, 16, 17, 18, 19, 20, 21, 22, 23, 24, 25, 26, 27, 28, 29, 30, 31, 32, 33, 34, 35, 36, 37] (by kernel_rfl) (by kernel_rfl) (HS6.out _ (Chg.refl _ _).drew) ?_
                  iterate 3
                    refine' lex_free (v := _) rfl rfl rfl ?_ (fun _ _ _ h => h) ?_
                    rotate_left
                    · rintro W ⟨h1, h2, h3, h4, h5, h6⟩
                      go_simp
                      with_reducible rfl
                    try simp only [Act.put, List.setIfInBounds_toArray, List.set_cons_zero, List.set_cons_succ]
                  iterate 3
                    refine' lex_freeG (v := _) rfl rfl rfl ?_ (fun _ _ _ h => h) ?_
                    rotate_left
                    · rintro W ⟨h1, h2, h3, h4, h5, h6⟩
                      go_simp
                      with_reducible rfl
                    try simp only [Act.put, List.setIfInBounds_toArray, List.set_cons_zero, List.set_cons_succ]
                  iterate 2
                    refine' lex_free (v := _) rfl rfl rfl ?_ (fun _ _ _ h => h) ?_
                    rotate_left
                    · rintro W ⟨h1, h2, h3, h4, h5, h6⟩
                      go_simp
                      with_reducible rfl
                    try simp only [Act.put, List.setIfInBounds_toArray, List.set_cons_zero, List.set_cons_succ]
                  iterate 4
                    refine' lex_freeG (v := _) rfl rfl rfl ?_ (fun _ _ _ h => h) ?_
                    rotate_left
                    · rintro W ⟨h1, h2, h3, h4, h5, h6⟩
                      go_simp
                      with_reducible rfl
                    try simp only [Act.put, List.setIfInBounds_toArray, List.set_cons_zero, List.set_cons_succ]
                  iterate 2
                    refine' lex_free (v := _) rfl rfl rfl ?_ (fun _ _ _ h => h) ?_
                    rotate_left
                    · rintro W ⟨h1, h2, h3, h4, h5, h6⟩
                      go_simp
                      with_reducible rfl
                    try simp only [Act.put, List.setIfInBounds_toArray, List.set_cons_zero, List.set_cons_succ]
                  iterate 3
                    refine' lex_freeG (v := _) rfl rfl rfl ?_ (fun _ _ _ h => h) ?_
                    rotate_left
                    · rintro W ⟨h1, h2, h3, h4, h5, h6⟩
                      go_simp
                      with_reducible rfl
                    try simp only [Act.put, List.setIfInBounds_toArray, List.set_cons_zero, List.set_cons_succ]
                  iterate 2
                    refine' lex_free (v := _) rfl rfl rfl ?_ (fun _ _ _ h => h) ?_
                    rotate_left
                    · rintro W ⟨h1, h2, h3, h4, h5, h6⟩
                      go_simp
                      with_reducible rfl
                    try simp only [Act.put, List.setIfInBounds_toArray, List.set_cons_zero, List.set_cons_succ]
                  iterate 6
                    refine' lex_freeG (v := _) rfl rfl rfl ?_ (fun _ _ _ h => h) ?_
                    rotate_left
                    · rintro W ⟨h1, h2, h3, h4, h5, h6⟩
                      go_simp
                      with_reducible rfl
                    try simp only [Act.put, List.setIfInBounds_toArray, List.set_cons_zero, List.set_cons_succ]
                  iterate 2
                    refine' lex_free (v := _) rfl rfl rfl ?_ (fun _ _ _ h => h) ?_
                    rotate_left
                    · rintro W ⟨h1, h2, h3, h4, h5, h6⟩
                      go_simp
                      with_reducible rfl
                    try simp only [Act.put, List.setIfInBounds_toArray, List.set_cons_zero, List.set_cons_succ]
                  iterate 10
                    refine' lex_freeG (v := _) rfl rfl rfl ?_ (fun _ _ _ h => h) ?_
                    rotate_left
                    · rintro W ⟨h1, h2, h3, h4, h5, h6⟩
                      go_simp
                      with_reducible rfl
                    try simp only [Act.put, List.setIfInBounds_toArray, List.set_cons_zero, List.set_cons_succ]
                  iterate 1
                    refine' lex_free (v := _) rfl rfl rfl ?_ (fun _ _ _ h => h) ?_
                    rotate_left
                    · rintro W ⟨h1, h2, h3, h4, h5, h6⟩
                      go_simp
                      with_reducible rfl
                    try simp only [Act.put, List.setIfInBounds_toArray, List.set_cons_zero, List.set_cons_succ]
                  refine lex_nil ?_
                  go_wp2_with fail
                  obtain ⟨v0, v1, v2⟩ := val_cells (show W5.drew.heap[w4.heap.size]? = some v.obj from V5.out)
                  obtain ⟨y0, y1, _, _, _, _⟩ := HS6.out W5.drew (Chg.refl _ _).drew
                  go_region
                  go_wp2
                  exact q_ret3dd v rfl rfl R5.out (fun w' c => QOut.yes (by rw [← HCQ.out, HCM.out]; rfl) (X5.out.trans c (fun k h => .inr (by unfold OneP at h; omega))))
              · have hk24 : (A'.k != 24) = true := by
                  have hxk := XA5.out.kind
                  have hty := HSA.out
                  rw [hxk]
                  cases a' with
                  | slot i => simp [isSlot] at his
                  | val v => simp [Ex.kind]
                  | col a b => simp [tyL] at hty
                  | cnt => simp [tyL] at hty
                  | un k a =>
                    simp only [tyL] at hty
                    split at hty
                    · rename_i hu; simp only [Ex.kind, bne_iff_ne]; intro h; subst h; simp [unK] at hu
                    · cases hty
                  | bin k a b =>
                    simp only [tyL] at hty
                    split at hty
                    · rename_i hu; simp only [Ex.kind, bne_iff_ne]; intro h; subst h; simp [binK] at hu
                    · cases hty
                have HIS := Lib.hid his
                clear his
                refine wp_region_lex (fun V => V.cell? ⟨b8, 0, none⟩ = some (.int .i64 A'.k) ∧ V.cell? ⟨b8, 6, none⟩ = some (.int .i64 A'.s) ∧ V.cell? ⟨b8, 7, none⟩ = some (.slice A'.ao A'.m A'.c) ∧ V.cell? ⟨w.heap.size + 1, 1, none⟩ = some (.slice (some ⟨tb, 0, none⟩) 4 tc) ∧ V.cell? ⟨w4.heap.size, 0, none⟩ = some (.int .i64 v.kind) ∧ (∀ (i : Nat) (d : Bcol), cs[i]? = some d → V.cell? ⟨tb, i * 4 + 1, none⟩ = some (.int .i64 d.ty))) 99 [] [0, 1, 2, 3, 4, 5, 6, 7, 8, 9, 10, 11, 12, 13, 14, 15, 16, 17, 18, 19, 20, 21, 22, 23, 24, 25, 26, 27, 28, 29, 30, 31, 32, 33, 34, 35, 36, 37] (by kernel_rfl) (by kernel_rfl) (HS5.out _ (Chg.refl _ _).drew) ?_
                iterate 3
                  refine' lex_free (v := _) rfl rfl rfl ?_ (fun _ _ _ h => h) ?_
                  rotate_left
                  · rintro W ⟨h1, h2, h3, h4, h5, h6⟩
                    go_simp
                    with_reducible rfl
                  try simp only [Act.put, List.setIfInBounds_toArray, List.set_cons_zero, List.set_cons_succ]
                iterate 3
                  refine' lex_freeG (v := _) rfl rfl rfl ?_ (fun _ _ _ h => h) ?_
                  rotate_left
                  · rintro W ⟨h1, h2, h3, h4, h5, h6⟩
                    go_simp
                    with_reducible rfl
                  try simp only [Act.put, List.setIfInBounds_toArray, List.set_cons_zero, List.set_cons_succ]
                iterate 2
                  refine' lex_free (v := _) rfl rfl rfl ?_ (fun _ _ _ h => h) ?_
                  rotate_left
                  · rintro W ⟨h1, h2, h3, h4, h5, h6⟩
                    go_simp
                    with_reducible rfl
                  try simp only [Act.put, List.setIfInBounds_toArray, List.set_cons_zero, List.set_cons_succ]
                iterate 4
                  refine lex_skip rfl rfl rfl (fun _ _ _ h => h) ?_
                  try simp only [Act.put, List.setIfInBounds_toArray, List.set_cons_zero, List.set_cons_succ]
                iterate 2
                  refine' lex_free (v := _) rfl rfl rfl ?_ (fun _ _ _ h => h) ?_
                  rotate_left
                  · rintro W ⟨h1, h2, h3, h4, h5, h6⟩
                    go_simp
                    with_reducible rfl
                  try simp only [Act.put, List.setIfInBounds_toArray, List.set_cons_zero, List.set_cons_succ]
                iterate 3
                  refine lex_skip rfl rfl rfl (fun _ _ _ h => h) ?_
                  try simp only [Act.put, List.setIfInBounds_toArray, List.set_cons_zero, List.set_cons_succ]
                iterate 2
                  refine' lex_free (v := _) rfl rfl rfl ?_ (fun _ _ _ h => h) ?_
                  rotate_left
                  · rintro W ⟨h1, h2, h3, h4, h5, h6⟩
                    go_simp
                    with_reducible rfl
                  try simp only [Act.put, List.setIfInBounds_toArray, List.set_cons_zero, List.set_cons_succ]
                iterate 6
                  refine lex_skip rfl rfl rfl (fun _ _ _ h => h) ?_
                  try simp only [Act.put, List.setIfInBounds_toArray, List.set_cons_zero, List.set_cons_succ]
                iterate 2
                  refine' lex_free (v := _) rfl rfl rfl ?_ (fun _ _ _ h => h) ?_
                  rotate_left
                  · rintro W ⟨h1, h2, h3, h4, h5, h6⟩
                    go_simp
                    with_reducible rfl
                  try simp only [Act.put, List.setIfInBounds_toArray, List.set_cons_zero, List.set_cons_succ]
                iterate 10
                  refine lex_skip rfl rfl rfl (fun _ _ _ h => h) ?_
                  try simp only [Act.put, List.setIfInBounds_toArray, List.set_cons_zero, List.set_cons_succ]
                iterate 1
                  refine' lex_free (v := _) rfl rfl rfl ?_ (fun _ _ _ h => h) ?_
                  rotate_left
                  · rintro W ⟨h1, h2, h3, h4, h5, h6⟩
                    go_simp
                    with_reducible rfl
                  try simp only [Act.put, List.setIfInBounds_toArray, List.set_cons_zero, List.set_cons_succ]
                refine lex_nil ?_
                go_wp2_with fail
                exact q_ret3d Val.null rfl rfl R5.out (fun w' c => QOut.no (by rw [← HCQ.out]; unfold cmpQ; have := HIS.out; cases a' <;> first | rfl | exact absurd rfl this) (X5.out.trans c (fun k h => .inr (by unfold OneP at h; omega))))
end Go.Proofs.YtnbckfkdmkbopaaGreatDoor
