/-
  The parser's chains: OR, AND, sums, products. No condition beyond each lemma's own.
  The parser's factor, not. No condition beyond each lemma's own.
-/
import Derived.Test.YtnbckfkdmkbopaaGreatDoorTH08
set_option autoImplicit false
namespace Go.Proofs.YtnbckfkdmkbopaaGreatDoor
open Go Go.RowKit

theorem chg_no {w w' : World} {F : Nat → Prop} (h : Chg NoB w w') : Chg F w w' := h.mono fun _ h => h.elim
/-- a tree goes into the result's variable, and back -/
theorem pout_ret {fn : Func} {tmps : Array Value} {p tb : Nat} {w w1 : World} {rr : Option (Ex × List Tok)} {x : Ex} {ts : List Tok} {E Z : ExF} (hres : fn.results = #[.cell 2 29]) (ht : tmps.getD 2 undef = .pointer (some ⟨w.heap.size, 0, none⟩))
    (hr : rr = some (x, ts)) (hX : Chg (OneP p) w w1) (hZ : w1.heap[w.heap.size]? = some Z.obj) (hx : ExAt w1 (fun q => w.heap.size < q) x E) (hp : PAt w1 p tb ts) (hpl : p < w.heap.size) (htl : tb < w.heap.size) :
    bodyPost Tryz.prog fn (POut rr p tb w) Exit.ret ⟨tmps, []⟩ ((((((((w1.setCell ⟨w.heap.size, 0, none⟩ (.int .i64 E.k)).setCell ⟨w.heap.size, 1, none⟩ (.int .i64 E.vk)).setCell ⟨w.heap.size, 2, none⟩ (.int .i64 E.vn)).setCell ⟨w.heap.size, 3, none⟩ (sv E.vs)).setCell ⟨w.heap.size, 4, none⟩ (sv E.t)).setCell ⟨w.heap.size, 5, none⟩ (sv E.n)).setCell ⟨w.heap.size, 6, none⟩ (.int .i64 E.s)).setCell ⟨w.heap.size, 7, none⟩ (.slice E.ao E.m E.c)) := by
  have hX8 := chg_set8 (Chg.refl (OneP w.heap.size) w1) (.inl rfl) (.int .i64 E.k) (.int .i64 E.vk) (.int .i64 E.vn) (sv E.vs) (sv E.t) (sv E.n) (.int .i64 E.s) (.slice E.ao E.m E.c)
  refine ex_ret E hres ht (ex_set hZ E) (POut.yes hr (hX.trans hX8 (fun q h => .inr (by unfold OneP at h; omega))) ?_ (hp.chg hX8 (by unfold OneP; omega) (by unfold OneP; omega)))
  exact (ExAt.chg hX8 (fun q h e => by unfold OneP at e; omega) _ _ hx).mono (fun q h _ => by omega)
set_option maxRecDepth 100000 in
set_option maxHeartbeats 1000000 in
theorem expr_w (g : Ptree) (N p tb : Nat) (hp10 : 10 ≤ p)
    (hp : ∀ ts w, ts.length ≤ N → PAt w p tb ts → Glob w → Calls Tryz.prog 148 #[.pointer (some ⟨p, 0, none⟩)] w (POut (g ts) p tb w)) (hlen : ∀ ts x r, g ts = some (x, r) → r.length ≤ ts.length)
    (ts : List Tok) (w : World) (hN : ts.length ≤ N) (h : PAt w p tb ts) (hg : Glob w) : Calls Tryz.prog 111 #[.pointer (some ⟨p, 0, none⟩)] w (POut (chainP g 1 opsOr ts) p tb w) := by
  have hpl := h.lt
  have htl := h.tl
  have H := Lib.hid h
  have HG := Lib.hid hg
  have HP := Lib.hid hp
  have HLen := Lib.hid hlen
  clear h hg hp hlen
  go_enter Tryz.func111, Tryz.ntmps111
  go_wp2_with fail
  have X3 : Chg NoB w _ := (((Chg.refl NoB w).alloc (ExF.obj ⟨0, 0, 0, [], [], [], 0, none, 0, 0⟩)).alloc (.cells (List.map (fun x => sv x.1) opsOr).toArray 9)).alloc (.cells (List.map (fun x => Value.int .i64 x.2) opsOr).toArray 3)
  refine (chain_any 148 (fun _ _ => by kernel_rfl) g N p tb hp10 HP.out HLen.out 1 opsOr (by decide) (w.heap.size + 1) (w.heap.size + 2) ts _ hN (H.out.quiet X3) (HG.out.quiet X3) ?_ ?_ (by omega) (by omega)).mono ?_
  · exact (hal_old (by simp)).trans (hal_new' (by simp))
  · exact hal_new' (by simp)
  intro e w1 ho
  have X1 : Chg (OneP p) w w1 := (chg_no X3).trans ho.1 (fun _ h => .inl h)
  have Z1 : w1.heap[w.heap.size]? = some (ExF.obj ⟨0, 0, 0, [], [], [], 0, none, 0, 0⟩) := ho.1.heap ((hal_old (by simp; omega)).trans ((hal_old (by simp)).trans hal_new)) (by unfold OneP; omega)
  obtain ⟨q, hq⟩ : ∃ q, chainP g 1 opsOr ts = q := ⟨_, rfl⟩
  rw [hq] at ho
  rcases q with _ | ⟨x, r⟩
  · obtain ⟨_, rfl⟩ := ho
    exact ⟨rfl, POut.no hq X1⟩
  · obtain ⟨_, E, rfl, hx, hpar⟩ := ho
    have HQ := Lib.hid hq
    obtain ⟨z0, z1, z2, z3, z4, z5, z6, z7⟩ := ExCells.of Z1
    have fz : ∀ o, w1.frozen? ⟨w.heap.size, o, none⟩ = false := fun o => frozen_of_row w1 _ o _ _ Z1
    have HX := Lib.hid hx
    have HPar := Lib.hid hpar
    have HX1 := Lib.hid X1
    have HZ1 := Lib.hid Z1
    clear hq hx hpar X1 Z1 X3
    go_wp2
    exact pout_ret rfl rfl HQ.out HX1.out HZ1.out (HX.out.mono fun q h _ => by simp at h; omega) HPar.out hpl htl
set_option maxRecDepth 100000 in
set_option maxHeartbeats 1000000 in
theorem and_w (g : Ptree) (N p tb : Nat) (hp10 : 10 ≤ p)
    (hp : ∀ ts w, ts.length ≤ N → PAt w p tb ts → Glob w → Calls Tryz.prog 167 #[.pointer (some ⟨p, 0, none⟩)] w (POut (g ts) p tb w)) (hlen : ∀ ts x r, g ts = some (x, r) → r.length ≤ ts.length)
    (ts : List Tok) (w : World) (hN : ts.length ≤ N) (h : PAt w p tb ts) (hg : Glob w) : Calls Tryz.prog 148 #[.pointer (some ⟨p, 0, none⟩)] w (POut (chainP g 1 opsAnd ts) p tb w) := by
  have hpl := h.lt
  have htl := h.tl
  have H := Lib.hid h
  have HG := Lib.hid hg
  have HP := Lib.hid hp
  have HLen := Lib.hid hlen
  clear h hg hp hlen
  go_enter Tryz.func148, Tryz.ntmps148
  go_wp2_with fail
  have X3 : Chg NoB w _ := (((Chg.refl NoB w).alloc (ExF.obj ⟨0, 0, 0, [], [], [], 0, none, 0, 0⟩)).alloc (.cells (List.map (fun x => sv x.1) opsAnd).toArray 9)).alloc (.cells (List.map (fun x => Value.int .i64 x.2) opsAnd).toArray 3)
  refine (chain_any 167 (fun _ _ => by kernel_rfl) g N p tb hp10 HP.out HLen.out 1 opsAnd (by decide) (w.heap.size + 1) (w.heap.size + 2) ts _ hN (H.out.quiet X3) (HG.out.quiet X3) ?_ ?_ (by omega) (by omega)).mono ?_
  · exact (hal_old (by simp)).trans (hal_new' (by simp))
  · exact hal_new' (by simp)
  intro e w1 ho
  have X1 : Chg (OneP p) w w1 := (chg_no X3).trans ho.1 (fun _ h => .inl h)
  have Z1 : w1.heap[w.heap.size]? = some (ExF.obj ⟨0, 0, 0, [], [], [], 0, none, 0, 0⟩) := ho.1.heap ((hal_old (by simp; omega)).trans ((hal_old (by simp)).trans hal_new)) (by unfold OneP; omega)
  obtain ⟨q, hq⟩ : ∃ q, chainP g 1 opsAnd ts = q := ⟨_, rfl⟩
  rw [hq] at ho
  rcases q with _ | ⟨x, r⟩
  · obtain ⟨_, rfl⟩ := ho
    exact ⟨rfl, POut.no hq X1⟩
  · obtain ⟨_, E, rfl, hx, hpar⟩ := ho
    have HQ := Lib.hid hq
    obtain ⟨z0, z1, z2, z3, z4, z5, z6, z7⟩ := ExCells.of Z1
    have fz : ∀ o, w1.frozen? ⟨w.heap.size, o, none⟩ = false := fun o => frozen_of_row w1 _ o _ _ Z1
    have HX := Lib.hid hx
    have HPar := Lib.hid hpar
    have HX1 := Lib.hid X1
    have HZ1 := Lib.hid Z1
    clear hq hx hpar X1 Z1 X3
    go_wp2
    exact pout_ret rfl rfl HQ.out HX1.out HZ1.out (HX.out.mono fun q h _ => by simp at h; omega) HPar.out hpl htl
set_option maxRecDepth 100000 in
set_option maxHeartbeats 1000000 in
theorem sum_w (g : Ptree) (N p tb : Nat) (hp10 : 10 ≤ p)
    (hp : ∀ ts w, ts.length ≤ N → PAt w p tb ts → Glob w → Calls Tryz.prog 181 #[.pointer (some ⟨p, 0, none⟩)] w (POut (g ts) p tb w)) (hlen : ∀ ts x r, g ts = some (x, r) → r.length ≤ ts.length)
    (ts : List Tok) (w : World) (hN : ts.length ≤ N) (h : PAt w p tb ts) (hg : Glob w) : Calls Tryz.prog 177 #[.pointer (some ⟨p, 0, none⟩)] w (POut (chainP g 5 opsSum ts) p tb w) := by
  have hpl := h.lt
  have htl := h.tl
  have H := Lib.hid h
  have HG := Lib.hid hg
  have HP := Lib.hid hp
  have HLen := Lib.hid hlen
  clear h hg hp hlen
  go_enter Tryz.func177, Tryz.ntmps177
  go_wp2_with fail
  have X3 : Chg NoB w _ := (((Chg.refl NoB w).alloc (ExF.obj ⟨0, 0, 0, [], [], [], 0, none, 0, 0⟩)).alloc (.cells (List.map (fun x => sv x.1) opsSum).toArray 9)).alloc (.cells (List.map (fun x => Value.int .i64 x.2) opsSum).toArray 3)
  refine (chain_any 181 (fun _ _ => by kernel_rfl) g N p tb hp10 HP.out HLen.out 5 opsSum (by decide) (w.heap.size + 1) (w.heap.size + 2) ts _ hN (H.out.quiet X3) (HG.out.quiet X3) ?_ ?_ (by omega) (by omega)).mono ?_
  · exact (hal_old (by simp)).trans (hal_new' (by simp))
  · exact hal_new' (by simp)
  intro e w1 ho
  have X1 : Chg (OneP p) w w1 := (chg_no X3).trans ho.1 (fun _ h => .inl h)
  have Z1 : w1.heap[w.heap.size]? = some (ExF.obj ⟨0, 0, 0, [], [], [], 0, none, 0, 0⟩) := ho.1.heap ((hal_old (by simp; omega)).trans ((hal_old (by simp)).trans hal_new)) (by unfold OneP; omega)
  obtain ⟨q, hq⟩ : ∃ q, chainP g 5 opsSum ts = q := ⟨_, rfl⟩
  rw [hq] at ho
  rcases q with _ | ⟨x, r⟩
  · obtain ⟨_, rfl⟩ := ho
    exact ⟨rfl, POut.no hq X1⟩
  · obtain ⟨_, E, rfl, hx, hpar⟩ := ho
    have HQ := Lib.hid hq
    obtain ⟨z0, z1, z2, z3, z4, z5, z6, z7⟩ := ExCells.of Z1
    have fz : ∀ o, w1.frozen? ⟨w.heap.size, o, none⟩ = false := fun o => frozen_of_row w1 _ o _ _ Z1
    have HX := Lib.hid hx
    have HPar := Lib.hid hpar
    have HX1 := Lib.hid X1
    have HZ1 := Lib.hid Z1
    clear hq hx hpar X1 Z1 X3
    go_wp2
    exact pout_ret rfl rfl HQ.out HX1.out HZ1.out (HX.out.mono fun q h _ => by simp at h; omega) HPar.out hpl htl
set_option maxRecDepth 100000 in
set_option maxHeartbeats 1000000 in
theorem product_w (g : Ptree) (N p tb : Nat) (hp10 : 10 ≤ p)
    (hp : ∀ ts w, ts.length ≤ N → PAt w p tb ts → Glob w → Calls Tryz.prog 182 #[.pointer (some ⟨p, 0, none⟩)] w (POut (g ts) p tb w)) (hlen : ∀ ts x r, g ts = some (x, r) → r.length ≤ ts.length)
    (ts : List Tok) (w : World) (hN : ts.length ≤ N) (h : PAt w p tb ts) (hg : Glob w) : Calls Tryz.prog 181 #[.pointer (some ⟨p, 0, none⟩)] w (POut (chainP g 5 opsProd ts) p tb w) := by
  have hpl := h.lt
  have htl := h.tl
  have H := Lib.hid h
  have HG := Lib.hid hg
  have HP := Lib.hid hp
  have HLen := Lib.hid hlen
  clear h hg hp hlen
  go_enter Tryz.func181, Tryz.ntmps181
  go_wp2_with fail
  have X3 : Chg NoB w _ := (((Chg.refl NoB w).alloc (ExF.obj ⟨0, 0, 0, [], [], [], 0, none, 0, 0⟩)).alloc (.cells (List.map (fun x => sv x.1) opsProd).toArray 9)).alloc (.cells (List.map (fun x => Value.int .i64 x.2) opsProd).toArray 3)
  refine (chain_any 182 (fun _ _ => by kernel_rfl) g N p tb hp10 HP.out HLen.out 5 opsProd (by decide) (w.heap.size + 1) (w.heap.size + 2) ts _ hN (H.out.quiet X3) (HG.out.quiet X3) ?_ ?_ (by omega) (by omega)).mono ?_
  · exact (hal_old (by simp)).trans (hal_new' (by simp))
  · exact hal_new' (by simp)
  intro e w1 ho
  have X1 : Chg (OneP p) w w1 := (chg_no X3).trans ho.1 (fun _ h => .inl h)
  have Z1 : w1.heap[w.heap.size]? = some (ExF.obj ⟨0, 0, 0, [], [], [], 0, none, 0, 0⟩) := ho.1.heap ((hal_old (by simp; omega)).trans ((hal_old (by simp)).trans hal_new)) (by unfold OneP; omega)
  obtain ⟨q, hq⟩ : ∃ q, chainP g 5 opsProd ts = q := ⟨_, rfl⟩
  rw [hq] at ho
  rcases q with _ | ⟨x, r⟩
  · obtain ⟨_, rfl⟩ := ho
    exact ⟨rfl, POut.no hq X1⟩
  · obtain ⟨_, E, rfl, hx, hpar⟩ := ho
    have HQ := Lib.hid hq
    obtain ⟨z0, z1, z2, z3, z4, z5, z6, z7⟩ := ExCells.of Z1
    have fz : ∀ o, w1.frozen? ⟨w.heap.size, o, none⟩ = false := fun o => frozen_of_row w1 _ o _ _ Z1
    have HX := Lib.hid hx
    have HPar := Lib.hid hpar
    have HX1 := Lib.hid X1
    have HZ1 := Lib.hid Z1
    clear hq hx hpar X1 Z1 X3
    go_wp2
    exact pout_ret rfl rfl HQ.out HX1.out HZ1.out (HX.out.mono fun q h _ => by simp at h; omega) HPar.out hpl htl
end Go.Proofs.YtnbckfkdmkbopaaGreatDoor

set_option autoImplicit false
namespace Go.Proofs.YtnbckfkdmkbopaaGreatDoor
open Go Go.RowKit

/-- '-' or an atom -/
def factorP (self atom : Ptree) : Ptree := fun ts =>
  match nextT 5 [45] ts with
  | some r => unP 3 self r
  | none => atom ts
/-- a tree with one kid, made -/
theorem un_at {w w' : World} {F : Nat → Prop} {b T : Nat} {k : Int} {x : Ex} {E : ExF} (hT : T = 29) (hb : w.heap[b]? = some (.cells #[.int .i64 E.k, .int .i64 E.vk, .int .i64 E.vn, sv E.vs, sv E.t, sv E.n, .int .i64 E.s, .slice E.ao E.m E.c] T (0, 0))) (hF : F b) (hx : ExAt w F x E) (hc : Chg NoB w w') :
    ExAt w' F (.un k x) ⟨k, 0, 0, [], [], [], 0, some ⟨b, 0, none⟩, 1, 1⟩ := by
  subst hT
  exact ⟨b, 1, E, rfl, Nat.lt_of_lt_of_le (lt_of_heap hb) hc.size, hF, range_block (hc.heap hb (fun h => h)), hx.quiet hc⟩
set_option maxRecDepth 100000 in
set_option maxHeartbeats 1000000 in
theorem factor_w (g a : Ptree) (N p tb : Nat) (hp10 : 10 ≤ p)
    (hp : ∀ ts w, ts.length + 1 ≤ N → PAt w p tb ts → Glob w → Calls Tryz.prog 182 #[.pointer (some ⟨p, 0, none⟩)] w (POut (g ts) p tb w))
    (ha : ∀ ts w, ts.length ≤ N → PAt w p tb ts → Glob w → Calls Tryz.prog 183 #[.pointer (some ⟨p, 0, none⟩)] w (POut (a ts) p tb w))
    (ts : List Tok) (w : World) (hN : ts.length ≤ N) (h : PAt w p tb ts) (hg : Glob w) : Calls Tryz.prog 182 #[.pointer (some ⟨p, 0, none⟩)] w (POut (factorP g a ts) p tb w) := by
  have hpl := h.lt
  have htl := h.tl
  have X0 : Chg NoB w _ := (Chg.refl NoB w).alloc (ExF.obj ⟨0, 0, 0, [], [], [], 0, none, 0, 0⟩)
  have H := Lib.hid (h.quiet X0)
  have HG := Lib.hid (hg.quiet X0)
  have HP := Lib.hid hp
  have HA := Lib.hid ha
  clear h hg hp ha X0
  obtain ⟨q, hq⟩ : ∃ q, nextT 5 [45] ts = q := ⟨_, rfl⟩
  rcases q with _ | r
  · have HQ := Lib.hid hq
    clear hq
    go_enter Tryz.func182, Tryz.ntmps182
    go_wp2_with (go_at_call 39; refine (sign_no H.out HQ.out).mono ?_; rintro e w' ⟨rfl, rfl⟩)
    refine (HA.out ts _ hN H.out HG.out).mono ?_
    intro e w1 ho
    have X1 : Chg (OneP p) w w1 := ((Chg.refl (OneP p) w).alloc _).trans ho.1 (fun _ h => .inl h)
    have Z1 : w1.heap[w.heap.size]? = some (ExF.obj ⟨0, 0, 0, [], [], [], 0, none, 0, 0⟩) := ho.1.heap hal_new (by unfold OneP; omega)
    obtain ⟨q, hq⟩ : ∃ q, a ts = q := ⟨_, rfl⟩
    have HF : Hid (factorP g a ts = q) := Lib.hid (by unfold factorP; rw [HQ.out]; exact hq)
    rw [hq] at ho
    rcases q with _ | ⟨x, r⟩
    · obtain ⟨_, rfl⟩ := ho
      exact ⟨rfl, POut.no HF.out X1⟩
    · obtain ⟨_, E, rfl, hx, hpar⟩ := ho
      obtain ⟨z0, z1, z2, z3, z4, z5, z6, z7⟩ := ExCells.of Z1
      have fz : ∀ o, w1.frozen? ⟨w.heap.size, o, none⟩ = false := fun o => frozen_of_row w1 _ o _ _ Z1
      have HX := Lib.hid hx
      have HPar := Lib.hid hpar
      have HX1 := Lib.hid X1
      have HZ1 := Lib.hid Z1
      clear hq hx hpar X1 Z1
      go_wp2
      exact pout_ret rfl rfl HF.out HX1.out HZ1.out (HX.out.mono fun q h _ => by simp at h; omega) HPar.out hpl htl
  · have HQ := Lib.hid hq
    have hrl := nextT_len hq
    clear hq
    go_enter Tryz.func182, Tryz.ntmps182
    go_wp2_with (go_at_call 39; refine (sign_yes H.out HQ.out).mono ?_; rintro e w1 ⟨rfl, HS⟩)
    have C1 : Hid (Chg (OneP p) w w1) := Lib.hid (((Chg.refl (OneP p) w).alloc _).trans HS.out.2 (fun _ h => .inl h))
    have Y1 : Hid (w1.heap[w.heap.size]? = some (ExF.obj ⟨0, 0, 0, [], [], [], 0, none, 0, 0⟩)) := Lib.hid (HS.out.2.heap hal_new (by unfold OneP; omega))
    refine (HP.out r _ (by omega) HS.out.1 (HS.out.2.glob hp10 HG.out)).mono ?_
    intro e w2 ho
    have X2 : Hid (Chg (OneP p) w w2) := Lib.hid (C1.out.trans ho.1 (fun _ h => .inl h))
    have Z2 : Hid (w2.heap[w.heap.size]? = some (ExF.obj ⟨0, 0, 0, [], [], [], 0, none, 0, 0⟩)) := Lib.hid (ho.1.heap Y1.out (by unfold OneP; omega))
    obtain ⟨q, hq⟩ : ∃ q, g r = q := ⟨_, rfl⟩
    rw [hq] at ho
    rcases q with _ | ⟨x, r2⟩
    · obtain ⟨_, rfl⟩ := ho
      exact ⟨rfl, POut.no (by unfold factorP; rw [HQ.out]; simp only [unP]; rw [hq]) X2.out⟩
    · obtain ⟨_, E, rfl, hx, hpar⟩ := ho
      have HF : Hid (factorP g a ts = some (.un 3 x, r2)) := Lib.hid (by unfold factorP; rw [HQ.out]; simp only [unP]; rw [hq])
      have hz1 := lt_of_heap Y1.out
      have HX := Lib.hid hx
      have HPar := Lib.hid hpar
      clear hq hx hpar
      have hzz := lt_of_heap Z2.out
      go_wp2_with fail
      refine (node_any _ _ _ _ _).mono ?_
      rintro e w3 ⟨rfl, x3⟩
      have T3 : Hid (ExAt w3 (fun q => w.heap.size < q) (.un 3 x) ⟨3, 0, 0, [], [], [], 0, some ⟨w2.heap.size, 0, none⟩, 1, 1⟩) := Lib.hid (un_at rfl hal_new (by omega) ((HX.out.mono fun q h _ => (show w.heap.size < q from by first | omega | (simp at h; omega))).quiet ((Chg.refl _ _).alloc _)) x3)
      have x3' := ((Chg.refl NoB w2).alloc (.cells #[.int .i64 E.k, .int .i64 E.vk, .int .i64 E.vn, sv E.vs, sv E.t, sv E.n, .int .i64 E.s, .slice E.ao E.m E.c] 29)).trans x3 (fun _ h => h.elim)
      have X3 : Hid (Chg (OneP p) w w3) := Lib.hid (X2.out.trans x3' (fun _ h => h.elim))
      have Z3 : Hid (w3.heap[w.heap.size]? = some (ExF.obj ⟨0, 0, 0, [], [], [], 0, none, 0, 0⟩)) := Lib.hid (x3'.heap Z2.out (fun h => h))
      have P3 := Lib.hid (HPar.out.quiet x3')
      clear x3 x3'
      obtain ⟨z0, z1, z2, z3, z4, z5, z6, z7⟩ := ExCells.of Z3.out
      have fz : ∀ o, w3.frozen? ⟨w.heap.size, o, none⟩ = false := fun o => frozen_of_row w3 _ o _ _ Z3.out
      go_wp2
      exact pout_ret (E := ⟨3, 0, 0, [], [], [], 0, some ⟨w2.heap.size, 0, none⟩, 1, 1⟩) rfl rfl HF.out X3.out Z3.out T3.out P3.out hpl htl
end Go.Proofs.YtnbckfkdmkbopaaGreatDoor
