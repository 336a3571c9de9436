/-
  Binding: the type of a kind. No condition beyond each lemma's own.
  Binding: the type of a comparison. No condition beyond each lemma's own.
  Binding: leaves, and what is none. No condition beyond each lemma's own.
  Binding: values. No condition beyond each lemma's own.
-/
import Derived.Test.YtnbckfkdmkbopaaGreatDoorTH18
set_option autoImplicit false
namespace Go.Proofs.YtnbckfkdmkbopaaGreatDoor
open Go Go.RowKit

def TOutB (r : Option Int) (w : World) (e : Ending) (w' : World) : Prop :=
  Chg NoB w w' ∧ ∃ t : Int, e = .returned (.tuple #[.int .i64 t, .bool r.isSome]) ∧ ∀ u, r = some u → t = u
theorem tout {b : Bool} {t : Int} {r : Option Int} {w w' : World} (h : Chg NoB w w') (hr : r = if b then some t else none) : TOutB r w (.returned (.tuple #[.int .i64 t, .bool b])) w' := by
  subst hr
  refine ⟨h, t, ?_, fun u hu => ?_⟩
  · cases b <;> rfl
  · cases b with
    | false => cases hu
    | true => simpa using hu
set_option maxHeartbeats 2000000 in
theorem typed_small (k : Int) (l : List Int) (F : Nat → Prop) (ao : Option Addr) (cap : Nat) (w : World) (hm : l.length ≤ 100000) (hk : unK k = true ∨ k = 16 ∨ k = 17 ∨ (5 ≤ k ∧ k ≤ 9)) (h : RowAt w F (.slice ao l.length cap) l.length (l.map (Value.int .i64))) :
    Calls Tryz.prog 46 #[.int .i64 k, .slice ao l.length cap] w (TOutB (typedL k l) w) := by
  have hmf : ∀ (fn : Fn) (first cap : Array Value) (w : World), (Instr.makeFunc fn first cap).run Tryz.prog w = .ok (.func fn first cap) w := fun _ _ _ _ => rfl
  have X : Hid (Chg NoB w (w.alloc (.cells #[.slice ao l.length cap] 42))) := Lib.hid ((Chg.refl NoB w).alloc _)
  have H := Lib.hid (h.quiet X.out)
  have hc : Hid ((w.alloc (.cells #[.slice ao l.length cap] 42)).cell? ⟨w.heap.size, 0, none⟩ = some (.slice ao l.length cap)) := Lib.hid (cell_of_row _ _ 0 _ _ _ hal_new)
  clear h
  have hk : k = 3 ∨ (5 ≤ k ∧ k ≤ 9) ∨ k = 4 ∨ k = 16 ∨ k = 17 ∨ k = 18 ∨ k = 19 := by simp [unK] at hk; omega
  rcases hk with rfl | ⟨h5, h9⟩ | rfl | rfl | rfl | rfl | rfl
  · go_enter Tryz.func46, Tryz.ntmps46
    go_wp2_with fail
    refine (only_any l 1 w.heap.size F ao cap _ hm hc.out H.out).mono ?_
    rintro e w2 ⟨rfl, c2⟩
    have X2 := Lib.hid (X.out.trans c2 (fun k h => h.elim))
    clear c2
    go_wp2
    refine bodyPost_ret (results_tmp2 rfl _ _ _) rfl (tout X2.out ?_)
    rfl
  · have b3 : (k == 3) = false := by simp; omega
    have hT : Hid (typedL k l = if only 1 l then some 1 else none) := Lib.hid (by simp [typedL, h5, h9])
    go_enter Tryz.func46, Tryz.ntmps46
    go_wp2_with fail
    refine (only_any l 1 w.heap.size F ao cap _ hm hc.out H.out).mono ?_
    rintro e w2 ⟨rfl, c2⟩
    have X2 := Lib.hid (X.out.trans c2 (fun k h => h.elim))
    clear c2
    go_wp2
    refine bodyPost_ret (results_tmp2 rfl _ _ _) rfl (tout X2.out ?_)
    exact hT.out
  · go_enter Tryz.func46, Tryz.ntmps46
    go_wp2_with fail
    refine (only_any l 2 w.heap.size F ao cap _ hm hc.out H.out).mono ?_
    rintro e w2 ⟨rfl, c2⟩
    have X2 := Lib.hid (X.out.trans c2 (fun k h => h.elim))
    clear c2
    go_wp2
    refine bodyPost_ret (results_tmp2 rfl _ _ _) rfl (tout X2.out ?_)
    rfl
  · go_enter Tryz.func46, Tryz.ntmps46
    go_wp2_with fail
    refine (only_any l 2 w.heap.size F ao cap _ hm hc.out H.out).mono ?_
    rintro e w2 ⟨rfl, c2⟩
    have X2 := Lib.hid (X.out.trans c2 (fun k h => h.elim))
    clear c2
    go_wp2
    refine bodyPost_ret (results_tmp2 rfl _ _ _) rfl (tout X2.out ?_)
    rfl
  · go_enter Tryz.func46, Tryz.ntmps46
    go_wp2_with fail
    refine (only_any l 2 w.heap.size F ao cap _ hm hc.out H.out).mono ?_
    rintro e w2 ⟨rfl, c2⟩
    have X2 := Lib.hid (X.out.trans c2 (fun k h => h.elim))
    clear c2
    go_wp2
    refine bodyPost_ret (results_tmp2 rfl _ _ _) rfl (tout X2.out ?_)
    rfl
  · go_enter Tryz.func46, Tryz.ntmps46
    go_wp2
    refine bodyPost_ret (results_tmp2 rfl _ _ _) rfl (tout X.out ?_)
    rfl
  · go_enter Tryz.func46, Tryz.ntmps46
    go_wp2
    refine bodyPost_ret (results_tmp2 rfl _ _ _) rfl (tout X.out ?_)
    rfl
end Go.Proofs.YtnbckfkdmkbopaaGreatDoor

set_option autoImplicit false
namespace Go.Proofs.YtnbckfkdmkbopaaGreatDoor
open Go Go.RowKit

set_option maxHeartbeats 2000000 in
theorem typed_cmp (k a b : Int) (F : Nat → Prop) (ao : Option Addr) (cap : Nat) (w : World) (h10 : 10 ≤ k) (h15 : k ≤ 15) (h : RowAt w F (.slice ao 2 cap) 2 ([a, b].map (Value.int .i64))) :
    Calls Tryz.prog 46 #[.int .i64 k, .slice ao 2 cap] w (TOutB (typedL k [a, b]) w) := by
  have hmf : ∀ (fn : Fn) (first cap : Array Value) (w : World), (Instr.makeFunc fn first cap).run Tryz.prog w = .ok (.func fn first cap) w := fun _ _ _ _ => rfl
  obtain ⟨ao', cap', e, hh⟩ := id h
  obtain ⟨b2, o, rfl, hb2, hF, hr⟩ := hh (by omega)
  cases e
  have XD : Hid (Chg NoB w (w.alloc (.cells #[.slice (some ⟨b2, o, none⟩) 2 cap] 42)).drew) := Lib.hid ((Chg.refl NoB w).alloc _).drew
  have HS : Hid (∀ V, Chg NoB (w.alloc (.cells #[.slice (some ⟨b2, o, none⟩) 2 cap] 42)).drew V → V.cell? ⟨w.heap.size, 0, none⟩ = some (.slice (some ⟨b2, o, none⟩) 2 cap) ∧ V.cell? ⟨b2, o, none⟩ = some (.int .i64 a) ∧ V.cell? ⟨b2, o + 1, none⟩ = some (.int .i64 b)) := Lib.hid fun V hV => by
    have hr' := range_of_heap ((XD.out.trans hV (fun _ h => h.elim)).keep b2 hb2 (fun h => h)) hr
    exact ⟨cell_of_row V _ 0 _ _ _ (hV.heap (show (w.alloc _).drew.heap[w.heap.size]? = _ from hal_new) (fun h => h)), hr' 0 _ rfl, hr' 1 _ rfl⟩
  have H := Lib.hid (h.quiet XD.out)
  have hT : Hid (typedL k [a, b] = if only (max a b) [a, b] then some 2 else none) := Lib.hid (by
    have h1 : ¬ k = 3 := by omega
    have h2 : ¬ k ≤ 9 := by omega
    have h3 : ¬ k = 4 := by omega
    have h4 : ¬ k = 16 := by omega
    have h5 : ¬ k = 17 := by omega
    have h6 : ¬ k = 18 := by omega
    have h7 : ¬ k = 19 := by omega
    simp [typedL, h1, h2, h3, h4, h5, h6, h7])
  have b1 : (k == 3) = false := by simp; omega
  have b2' : ¬ k ≤ 9 := by omega
  have b3 : (k == 4) = false := by simp; omega
  have b4 : (k == 16) = false := by simp; omega
  have b5 : (k == 17) = false := by simp; omega
  have b6 : (k == 18) = false := by simp; omega
  have b7 : (k == 19) = false := by simp; omega
  have h5 : 5 ≤ k := by omega
  clear h hh hr h10
  go_enter Tryz.func46, Tryz.ntmps46
  go_wp2_with fail
  refine wp_region_lex (fun V => V.cell? ⟨w.heap.size, 0, none⟩ = some (.slice (some ⟨b2, o, none⟩) 2 cap) ∧ V.cell? ⟨b2, o, none⟩ = some (.int .i64 a) ∧ V.cell? ⟨b2, o + 1, none⟩ = some (.int .i64 b)) 99 [8] [0, 1, 2, 3, 4, 5, 6, 7, 8, 9, 10] (by kernel_rfl) (by kernel_rfl) (HS.out _ (Chg.refl _ _)) ?_
  iterate 8
    refine' lex_free (v := _) rfl rfl rfl ?_ (fun _ _ _ h => h) ?_
    rotate_left
    · rintro W ⟨h1, h2, h3⟩
      go_simp
      with_reducible rfl
    try simp only [Act.put, List.setIfInBounds_toArray, List.set_cons_zero, List.set_cons_succ]
  refine lex_op rfl rfl rfl (fun K hK => ?_)
  go_simp
  refine (only_any [a, b] (max a b) w.heap.size F _ cap _ (by simp) (HS.out _ (Chg.refl _ _)).1 H.out).mono ?_
  rintro e w2 ⟨rfl, c2⟩
  refine hK _ _ (fun _ => HS.out _ c2) ?_
  clear hK K
  try simp only [Act.put, List.setIfInBounds_toArray, List.set_cons_zero, List.set_cons_succ]
  iterate 2
    refine' lex_free (v := _) rfl rfl rfl ?_ (fun _ _ _ h => h) ?_
    rotate_left
    · rintro W ⟨h1, h2, h3⟩
      go_simp
      with_reducible rfl
    try simp only [Act.put, List.setIfInBounds_toArray, List.set_cons_zero, List.set_cons_succ]
  refine lex_nil ?_
  go_wp2
  refine bodyPost_ret (results_tmp2 rfl _ _ _) rfl (tout (XD.out.trans c2 (fun _ h => h.elim)) ?_)
  exact hT.out
end Go.Proofs.YtnbckfkdmkbopaaGreatDoor

set_option autoImplicit false
namespace Go.Proofs.YtnbckfkdmkbopaaGreatDoor
open Go Go.RowKit

def BOut (r : Option (Ex × Int)) (w : World) (e : Ending) (w' : World) : Prop :=
  Chg NoB w w' ∧ match r with
  | none => ∃ t q : Int, q ≠ 0 ∧ e = .returned (.tuple #[zeroE.val, .int .i64 t, .int .i64 q])
  | some (y, t) => ∃ E, e = .returned (.tuple #[ExF.val E, .int .i64 t, .int .i64 0]) ∧ ExAt w' (fun k => w.heap.size ≤ k) y E
theorem BOut.no {r : Option (Ex × Int)} {w w' : World} {t q : Int} (hr : r = none) (h : Chg NoB w w') (hq : q ≠ 0) : BOut r w (.returned (.tuple #[zeroE.val, .int .i64 t, .int .i64 q])) w' := by
  subst hr; exact ⟨h, t, q, hq, rfl⟩
theorem BOut.yes {r : Option (Ex × Int)} {w w' : World} {y : Ex} {t : Int} {E : ExF} (hr : r = some (y, t)) (h : Chg NoB w w') (hx : ExAt w' (fun k => w.heap.size ≤ k) y E) : BOut r w (.returned (.tuple #[ExF.val E, .int .i64 t, .int .i64 0])) w' := by
  subst hr; exact ⟨h, E, rfl, hx⟩
theorem results_ex3 {fn : Func} (h : fn.results = #[.cell 4 29, .tmp 5, .tmp 6]) (tmps : Array Value) (w : World) (b : Nat) (E : ExF) (hp : tmps.getD 4 undef = .pointer (some ⟨b, 0, none⟩)) (hs : w.heap[b]? = some E.obj) :
    (results fn tmps).run Tryz.prog w = .ok (.tuple #[E.val, tmps.getD 5 undef, tmps.getD 6 undef]) w := by
  have hp' : tmps[4]?.getD undef = .pointer (some ⟨b, 0, none⟩) := by simpa using hp
  have h1 := run_loadVar_mid (P := Tryz.prog) w b 0 29 E.cells _ (range_block hs) Tryz.underlying29 rfl (by kernel_rfl)
  simp [results, h, hp', asAddr, h1]
theorem ex_ret3 {fn : Func} {Q : Ending → World → Prop} {tmps : Array Value} {w : World} {b : Nat} {Z : ExF} (E : ExF) (h : fn.results = #[.cell 4 29, .tmp 5, .tmp 6]) (hp : tmps.getD 4 undef = .pointer (some ⟨b, 0, none⟩)) (hs : w.heap[b]? = some Z.obj)
    (hQ : ∀ w', Chg (OneP b) w w' → Q (.returned (.tuple #[E.val, tmps.getD 5 undef, tmps.getD 6 undef])) w') :
    bodyPost Tryz.prog fn Q Exit.ret ⟨tmps, []⟩ ((((((((w.setCell ⟨b, 0, none⟩ (.int .i64 E.k)).setCell ⟨b, 1, none⟩ (.int .i64 E.vk)).setCell ⟨b, 2, none⟩ (.int .i64 E.vn)).setCell ⟨b, 3, none⟩ (sv E.vs)).setCell ⟨b, 4, none⟩ (sv E.t)).setCell ⟨b, 5, none⟩ (sv E.n)).setCell ⟨b, 6, none⟩ (.int .i64 E.s)).setCell ⟨b, 7, none⟩ (.slice E.ao E.m E.c)) :=
  bodyPost_ret (results_ex3 h _ _ b E hp (ex_set hs E)) rfl (hQ _ (chg_set8 (Chg.refl (OneP b) w) (.inl rfl) _ _ _ _ _ _ _ _))
set_option maxRecDepth 100000 in
set_option maxHeartbeats 2000000 in
theorem bind_aggr (E : ExF) (v : Value) (w : World) (r : Option (Ex × Int)) (hr : r = none) (ha : aggB E.k = true) : Calls Tryz.prog 17 #[E.val, v] w (BOut r w) := by
  go_enter Tryz.func17, Tryz.ntmps17
  go_wp2_with fail
  refine (aggregate_any E.k _).mono ?_
  rintro e w' ⟨rfl, rfl⟩
  rw [ha]
  go_wp2
  exact bodyPost_ret (results_ex3 rfl _ _ (w.heap.size + 1) zeroE rfl (hal_new' (by simp))) rfl (BOut.no hr (((Chg.refl _ w).alloc _).alloc _) (by decide))
set_option maxRecDepth 100000 in
set_option maxHeartbeats 2000000 in
theorem bind_kids (E : ExF) (v : Value) (w : World) (r : Option (Ex × Int)) (hr : r = none) (ha : aggB E.k = false) (hm : ¬ (E.m : Int) = kidsN E.k) : Calls Tryz.prog 17 #[E.val, v] w (BOut r w) := by
  have hm' : ((E.m : Int) == kidsN E.k) = false := by simpa using hm
  go_enter Tryz.func17, Tryz.ntmps17
  go_wp2_with fail
  refine (aggregate_any E.k _).mono ?_
  rintro e w' ⟨rfl, rfl⟩
  rw [ha]
  go_wp2_with fail
  go_quiet ((go_at_call 43; exact quiet_g ⟨_, rfl⟩ (bkids_any E.k _)))
  go_wp2
  exact ex_ret3 zeroE rfl rfl (show (World.drewN _ _).heap[w.heap.size + 1]? = some zeroE.obj from hal_new' (by simp)) (fun w' c => BOut.no hr (((((Chg.refl NoB w).alloc _).alloc _).drewN _).trans c (fun k h => .inr (by unfold OneP at h; omega))) (by decide))
end Go.Proofs.YtnbckfkdmkbopaaGreatDoor

set_option autoImplicit false
namespace Go.Proofs.YtnbckfkdmkbopaaGreatDoor
open Go Go.RowKit

theorem ex_ret3d {fn : Func} {Q : Ending → World → Prop} {tmps : Array Value} {w : World} {b : Nat} {Z : ExF} (E : ExF) (h : fn.results = #[.cell 4 29, .tmp 5, .tmp 6]) (hp : tmps.getD 4 undef = .pointer (some ⟨b, 0, none⟩)) (hs : w.heap[b]? = some Z.obj)
    (hQ : ∀ w', Chg (OneP b) w w' → Q (.returned (.tuple #[E.val, tmps.getD 5 undef, tmps.getD 6 undef])) w') :
    bodyPost Tryz.prog fn Q Exit.ret ⟨tmps, []⟩ ((((((((w.setCell ⟨b, 0, none⟩ (.int .i64 E.k)).setCell ⟨b, 1, none⟩ (.int .i64 E.vk)).setCell ⟨b, 2, none⟩ (.int .i64 E.vn)).setCell ⟨b, 3, none⟩ (sv E.vs)).setCell ⟨b, 4, none⟩ (sv E.t)).setCell ⟨b, 5, none⟩ (sv E.n)).setCell ⟨b, 6, none⟩ (.int .i64 E.s)).setCell ⟨b, 7, none⟩ (.slice E.ao E.m E.c)).drew := by
  have h1 := ex_set hs E
  have c1 := chg_set8 (Chg.refl (OneP b) w) (.inl rfl) (.int .i64 E.k) (.int .i64 E.vk) (.int .i64 E.vn) (sv E.vs) (sv E.t) (sv E.n) (.int .i64 E.s) (.slice E.ao E.m E.c)
  generalize World.setCell _ _ (.slice E.ao E.m E.c) = V at h1 c1 ⊢
  have h2 : V.drew.heap[b]? = some E.obj := h1
  exact bodyPost_ret (results_ex3 h _ _ b E hp h2) rfl (hQ _ c1.drew)
set_option maxRecDepth 100000 in
set_option maxHeartbeats 2000000 in
theorem bind_val (cs : List Bcol) (x : Val) (v : Value) (w : World) : Calls Tryz.prog 17 #[ExF.val ⟨1, x.kind, x.num, x.str, [], [], 0, none, 0, 0⟩, v] w (BOut (bindL cs (.val x)) w) := by
  obtain ⟨q, hq⟩ : ∃ q, okV x = q := ⟨_, rfl⟩
  have HQ := Lib.hid hq
  clear hq
  have hk : Hid (kidsN 1 = 0) := Lib.hid rfl
  have hag : Hid (aggB 1 = false) := Lib.hid rfl
  go_enter Tryz.func17, Tryz.ntmps17
  go_wp2_with fail
  refine (aggregate_any 1 _).mono ?_
  rintro e w' ⟨rfl, rfl⟩
  rw [hag.out]
  go_wp2_with fail
  go_quiet ((go_at_call 43; rw [← hk.out]; exact quiet_g ⟨_, rfl⟩ (bkids_any 1 _)))
  go_wp2_with fail
  have X0 : Hid (Chg NoB w ((((w.alloc (ExF.obj ⟨1, x.kind, x.num, x.str, [], [], 0, none, 0, 0⟩)).alloc zeroE.obj).drewN nq))) := Lib.hid ((((Chg.refl NoB w).alloc _).alloc _).drewN _)
  have A0 : Hid ((((w.alloc (ExF.obj ⟨1, x.kind, x.num, x.str, [], [], 0, none, 0, 0⟩)).alloc zeroE.obj).drewN nq).heap[w.heap.size]? = some (ExF.obj ⟨1, x.kind, x.num, x.str, [], [], 0, none, 0, 0⟩)) := Lib.hid ((hal_old (by simp)).trans hal_new)
  have Z0 : Hid ((((w.alloc (ExF.obj ⟨1, x.kind, x.num, x.str, [], [], 0, none, 0, 0⟩)).alloc zeroE.obj).drewN nq).heap[w.heap.size + 1]? = some zeroE.obj) := Lib.hid (hal_new' (by simp))
  refine (ok_any x _).mono ?_
  rintro e w2 ⟨rfl, c2⟩
  have X2 := Lib.hid (X0.out.trans c2 (fun k h => h.elim))
  have A2 := Lib.hid (c2.heap A0.out (fun h => h))
  have Z2 := Lib.hid (c2.heap Z0.out (fun h => h))
  clear c2
  obtain ⟨a0, a1, a2, a3, a4, a5, a6, a7⟩ := ExCells.of A2.out
  obtain ⟨z0, z1, z2, z3, z4, z5, z6, z7⟩ := ExCells.of Z2.out
  have fz : ∀ o, w2.frozen? ⟨w.heap.size + 1, o, none⟩ = false := fun o => frozen_of_row w2 _ o _ _ Z2.out
  rw [HQ.out]
  cases q with
  | true =>
    go_wp2_with fail
    go_region
    go_wp2
    exact ex_ret3d ⟨1, x.kind, x.num, x.str, [], [], 0, none, 0, 0⟩ rfl rfl Z2.out (fun w' c => BOut.yes (y := .val x) (by simp only [bindL]; rw [HQ.out]; rfl) (X2.out.trans c (fun k h => .inr (by unfold OneP at h; omega))) rfl)
  | false =>
    go_wp2
    exact ex_ret3 zeroE rfl rfl Z2.out (fun w' c => BOut.no (by simp only [bindL]; rw [HQ.out]; rfl) (X2.out.trans c (fun k h => .inr (by unfold OneP at h; omega))) (by decide))
end Go.Proofs.YtnbckfkdmkbopaaGreatDoor
