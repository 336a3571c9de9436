/-
  Binding, whole. No condition beyond each lemma's own.
-/
import Derived.Test.YtnbckfkdmkbopaaGreatDoorTH20
set_option autoImplicit false
namespace Go.Proofs.YtnbckfkdmkbopaaGreatDoor
open Go Go.RowKit

/-- what a round of Bind's loop leaves -/
structure BInv (cs : List Bcol) (w : World) (kids : List Ex) (k : Int) (E0 : ExF) (l : List (Ex × Int)) (Es : List ExF) (v u : Value) (wr : World) : Prop where
  done : bkL cs (kids.take l.length) = some l
  trees : TreesAt wr (fun q => w.heap.size + 1 + 1 + 1 ≤ q ∧ v.ownBlock ≠ some q ∧ u.ownBlock ≠ some q) l Es
  ov : Own 29 8 wr (w.heap.size + 1 + 1 + 1) v l.length (exCells Es)
  ou : Own 3 1 wr (w.heap.size + 1 + 1 + 1) u l.length (l.map fun p => .int .i64 p.2)
  ne : ∀ q, v.ownBlock = some q → u.ownBlock ≠ some q
  y : wr.heap[w.heap.size + 1 + 1]? = some (.cells #[.int .i64 k, .int .i64 0, .int .i64 0, sv [], sv [], sv [], .int .i64 0, v] 29 (0, 0))
  z : wr.heap[w.heap.size + 1]? = some zeroE.obj
  x : wr.heap[w.heap.size]? = some E0.obj
  c : Chg NoB w wr
theorem BInv.step {cs : List Bcol} {w : World} {kids : List Ex} {k : Int} {E0 : ExF} {l : List (Ex × Int)} {Es : List ExF} {v u : Value} {wr w2 w9 w11 : World} {y zt : Ex} {ty : Int} {B : ExF} {v9 u11 : Value}
    (h : BInv cs w kids k E0 l Es v u wr) (hy : kids[l.length]? = some y) (hq : bindL cs y = some (zt, ty)) (X2 : Chg NoB wr w2) (hz : ExAt w2 (fun q => wr.heap.size ≤ q) zt B)
    (y9 : Chg (fun g => v.ownBlock = some g) w2 w9) (r9 : Own 29 8 w9 (w.heap.size + 1 + 1 + 1) v9 (l.length + 1) (exCells Es ++ B.cells)) (nb9 : ∀ g, v9.ownBlock = some g → v.ownBlock = some g ∨ w2.heap.size ≤ g)
    (y11 : Chg (fun g => u.ownBlock = some g) w9 w11) (r11 : Own 3 1 w11 (w.heap.size + 1 + 1 + 1) u11 (l.length + 1) ((l.map fun p => .int .i64 p.2) ++ [.int .i64 ty])) (nb11 : ∀ g, u11.ownBlock = some g → u.ownBlock = some g ∨ w9.heap.size ≤ g) :
    BInv cs w kids k E0 (l ++ [(zt, ty)]) (Es ++ [B]) v9 u11 (w11.setCell ⟨w.heap.size + 1 + 1, 7, none⟩ v9) := by
  have s2 := X2.size
  have s9 := y9.size
  have s11 := y11.size
  have sy := lt_of_heap h.y
  have lv : ∀ g, v.ownBlock = some g → g < wr.heap.size := fun g hg => h.ov.lt hg
  have lu : ∀ g, u.ownBlock = some g → g < wr.heap.size := fun g hg => h.ou.lt hg
  have cS : Chg (OneP (w.heap.size + 1 + 1)) w11 (w11.setCell ⟨w.heap.size + 1 + 1, 7, none⟩ v9) := (Chg.refl (OneP (w.heap.size + 1 + 1)) w11).setCell (p := ⟨w.heap.size + 1 + 1, 7, none⟩) (.inl rfl) _
  have t1 : TreesAt wr (fun q => w.heap.size + 1 + 1 + 1 ≤ q ∧ v.ownBlock ≠ some q ∧ u.ownBlock ≠ some q ∧ q < wr.heap.size) l Es := h.trees.mono fun q hq hl => ⟨hq.1, hq.2.1, hq.2.2, hl⟩
  have t2 := (((t1.chg X2 (fun _ _ h => h)).chg y9 (fun q hq e => hq.2.1 e)).chg y11 (fun q hq e => hq.2.2.1 e)).chg cS (fun q hq e => by have := hq.1; unfold OneP at e; omega)
  have z1 : ExAt w2 (fun q => wr.heap.size ≤ q ∧ q < w2.heap.size) zt B := hz.mono fun q hq hl => ⟨hq, hl⟩
  have z2 := ExAt.chg cS (fun q hq e => by have := hq.1; unfold OneP at e; omega) _ _ (ExAt.chg y11 (fun q hq e => by have := lu q e; have := hq.1; omega) _ _ (ExAt.chg y9 (fun q hq e => by have := lv q e; have := hq.1; omega) _ _ z1))
  have hv11 : ∀ g, v9.ownBlock = some g → ¬ u.ownBlock = some g := fun g hg e => by
    rcases nb9 g hg with h1 | h1
    · exact h.ne g h1 e
    · have := lu g e; omega
  refine ⟨?_, ?_, ?_, ?_, ?_, ?_, ?_, ?_, ?_⟩
  · rw [List.length_append, List.length_singleton, List.take_add_one, hy, Option.toList_some, bkL_snoc, h.done, hq]
  · refine TreesAt.snoc (t2.mono fun q hq _ => ⟨hq.1, fun e => ?_, fun e => ?_⟩) (z2.mono fun q hq _ => ⟨by have := hq.1; omega, fun e => ?_, fun e => ?_⟩)
    · rcases nb9 q e with h1 | h1
      · exact hq.2.1 h1
      · have := hq.2.2.2; omega
    · rcases nb11 q e with h1 | h1
      · exact hq.2.2.1 h1
      · have := hq.2.2.2; omega
    · rcases nb9 q e with h1 | h1
      · have := lv q h1; have := hq.1; omega
      · have := hq.2; omega
    · rcases nb11 q e with h1 | h1
      · have := lu q h1; have := hq.1; omega
      · have := hq.2; omega
  · have := (r9.chg y11 hv11).chg cS (fun g hg e => by have := r9.lo g hg; unfold OneP at e; omega)
    rw [List.length_append, List.length_singleton]
    simpa [exCells] using this
  · have := r11.chg cS (fun g hg e => by have := r11.lo g hg; unfold OneP at e; omega)
    rw [List.length_append, List.length_singleton]
    simpa using this
  · intro q e e2
    rcases nb11 q e2 with h1 | h1
    · exact hv11 q e h1
    · have := r9.lt e; omega
  · have a := y11.heap (y9.heap (X2.heap h.y (fun h => h)) (fun e => by have := h.ov.lo _ e; omega)) (fun e => by have := h.ou.lo _ e; omega)
    exact hset_eq (i := 7) (v := v9) a
  · exact cS.heap (y11.heap (y9.heap (X2.heap h.z (fun h => h)) (fun e => by have := h.ov.lo _ e; omega)) (fun e => by have := h.ou.lo _ e; omega)) (by unfold OneP; omega)
  · exact cS.heap (y11.heap (y9.heap (X2.heap h.x (fun h => h)) (fun e => by have := h.ov.lo _ e; omega)) (fun e => by have := h.ou.lo _ e; omega)) (by unfold OneP; omega)
  · exact (((h.c.trans X2 (fun _ h => .inl h)).trans y9 (fun g e => .inr (by have := h.ov.lo _ e; omega))).trans y11 (fun g e => .inr (by have := h.ou.lo _ e; omega))).trans cS (fun g e => .inr (by unfold OneP at e; omega))
theorem typed_any (k : Int) (l : List Int) (n : Nat) (hn : l.length = n) (F : Nat → Prop) (ao : Option Addr) (cap : Nat) (w : World) (hk : (n = 1 ∧ unK k = true) ∨ (n = 2 ∧ binK k = true)) (h : RowAt w F (.slice ao n cap) n (l.map (Value.int .i64))) :
    Calls Tryz.prog 46 #[.int .i64 k, .slice ao n cap] w (TOutB (typedL k l) w) := by
  subst hn
  rcases hk with ⟨h1, hk⟩ | ⟨h2, hk⟩
  · exact typed_small k l F ao cap w (by omega) (.inl hk) h
  · by_cases hc : 10 ≤ k ∧ k ≤ 15
    · match l, h2 with
      | [a, b], _ => exact typed_cmp k a b F ao cap w hc.1 hc.2 h
    · exact typed_small k l F ao cap w (by omega) (by simp [binK] at hk; omega) h
/-- a whole tree, behind the last round -/
theorem BInv.node {cs : List Bcol} {w : World} {kids : List Ex} {k : Int} {E0 : ExF} {l : List (Ex × Int)} {Es : List ExF} {g vc : Nat} {u : Value} {wr : World}
    (h : BInv cs w kids k E0 l Es (.slice (some ⟨g, 0, none⟩) l.length vc) u wr) (hl : l.length = 1 ∨ l.length = 2) : ExAt wr (fun q => w.heap.size + 1 + 1 ≤ q) (mkX k l) ⟨k, 0, 0, [], [], [], 0, some ⟨g, 0, none⟩, l.length, vc⟩ := by
  obtain ⟨ao', cap', e, hh⟩ := h.ov.read
  cases e
  obtain ⟨b', o', e', hb, hlo, hr⟩ := hh (by omega)
  cases e'
  exact node_at (h.trees.mono fun q hq _ => by omega) hl hb (by omega) hr
theorem ex_ret3a {fn : Func} {Q : Ending → World → Prop} {tmps : Array Value} {w : World} {b : Nat} {Z : ExF} (o : Obj) (E : ExF) (h : fn.results = #[.cell 4 29, .tmp 5, .tmp 6]) (hp : tmps.getD 4 undef = .pointer (some ⟨b, 0, none⟩)) (hs : w.heap[b]? = some Z.obj)
    (hQ : ∀ w', Chg (OneP b) w w' → Q (.returned (.tuple #[E.val, tmps.getD 5 undef, tmps.getD 6 undef])) w') :
    bodyPost Tryz.prog fn Q Exit.ret ⟨tmps, []⟩ (((((((((w.setCell ⟨b, 0, none⟩ (.int .i64 E.k)).setCell ⟨b, 1, none⟩ (.int .i64 E.vk)).setCell ⟨b, 2, none⟩ (.int .i64 E.vn)).setCell ⟨b, 3, none⟩ (sv E.vs)).setCell ⟨b, 4, none⟩ (sv E.t)).setCell ⟨b, 5, none⟩ (sv E.n)).setCell ⟨b, 6, none⟩ (.int .i64 E.s)).setCell ⟨b, 7, none⟩ (.slice E.ao E.m E.c)).alloc o) := by
  have h1 := ex_set hs E
  have c1 := chg_set8 (Chg.refl (OneP b) w) (.inl rfl) (.int .i64 E.k) (.int .i64 E.vk) (.int .i64 E.vn) (sv E.vs) (sv E.t) (sv E.n) (.int .i64 E.s) (.slice E.ao E.m E.c)
  generalize World.setCell _ _ (.slice E.ao E.m E.c) = V at h1 c1 ⊢
  exact bodyPost_ret (results_ex3 h _ _ b E hp ((hal_old (lt_of_heap h1)).trans h1)) rfl (hQ _ (c1.alloc _))
set_option maxRecDepth 100000 in
set_option maxHeartbeats 4000000 in
theorem bind_node (n : Nat) (ih : ∀ (x : Ex) (E : ExF) (F G : Nat → Prop) (ao : Option Addr) (cap : Nat) (cs : List Bcol) (w : World), x.hgt ≤ n → cs.length ≤ 100000 → ExAt w F x E → BcolsAt w G (.slice ao cs.length cap) cs → Calls Tryz.prog 17 #[E.val, .slice ao cs.length cap] w (BOut (bindL cs x) w))
    (x : Ex) (E : ExF) (F G : Nat → Prop) (ao : Option Addr) (cap : Nat) (cs : List Bcol) (w : World) (hn : x.hgt ≤ n + 1) (hm : cs.length ≤ 100000) (hx : ExAt w F x E) (hcs : BcolsAt w G (.slice ao cs.length cap) cs)
    (h0 : 0 < x.kids.length) (hk : (x.kids.length : Int) = kidsN x.kind) (hag : aggB x.kind = false) : Calls Tryz.prog 17 #[E.val, .slice ao cs.length cap] w (BOut (bindL cs x) w) := by
  have hl2 : x.kids.length ≤ 2 := by cases x <;> simp [Ex.kids]
  have HB := Lib.hid (bind_kids_eq cs h0 hk)
  have hek := hx.kind
  obtain ⟨hm2, hkid⟩ := hx.kid
  have hnk : ¬ x.kind = 1 ∧ ¬ x.kind = 2 := by
    constructor
    · intro h; rw [h] at hk; have : kidsN 1 = 0 := rfl; omega
    · intro h; rw [h] at hk; have : kidsN 2 = 0 := rfl; omega
  obtain ⟨ek, evk, evn, evs, et, en, es, eo, em, ec⟩ := E
  simp only at hek hm2 hkid
  subst hek; subst hm2
  have b1 : (x.kind == 1) = false := by simpa using hnk.1
  have b2 : (x.kind == 2) = false := by simpa using hnk.2
  have HK := Lib.hid hkid
  have HI := Lib.hid ih
  have HCS := Lib.hid hcs
  have HAG := Lib.hid hag
  have HKN := Lib.hid hk
  clear hx ih hcs hag hk hkid hnk
  go_enter Tryz.func17, Tryz.ntmps17
  go_wp2_with fail
  refine (aggregate_any x.kind _).mono ?_
  rintro e w' ⟨rfl, rfl⟩
  rw [HAG.out]
  go_wp2_with fail
  go_quiet ((go_at_call 43; exact quiet_g ⟨_, rfl⟩ (bkids_any x.kind _)))
  have hbne : ((x.kids.length : Int) != kidsN x.kind) = false := by rw [← HKN.out]; simp
  rw [hbne]
  clear hbne
  go_wp2
  go_loopw [10, 82] (fun t i wr => ∃ j : Nat, i = .int .i64 j ∧ j ≤ x.kids.length ∧ ∃ u, t = u ∧ Hid (∃ l Es v, l.length = j ∧ BInv cs w x.kids x.kind ⟨x.kind, evk, evn, evs, et, en, es, eo, x.kids.length, ec⟩ l Es v u wr)) (fun _ i _ => (x.kids.length - intOf i).toNat)
  case atStart =>
    refine ⟨0, rfl, Nat.zero_le _, _, rfl, Lib.hid ⟨[], [], nilS, rfl, rfl, ⟨rfl, fun i p E h => by simp at h⟩, Own.nil _ _ _ _, Own.nil _ _ _ _, fun q h => by simp [Value.ownBlock] at h, ?_, ?_, ?_, ?_⟩⟩
    · exact hal_new' (by simp)
    · exact (hal_old (by simp)).trans (hal_new' (by simp))
    · exact (hal_old (by simp; omega)).trans ((hal_old (by simp)).trans hal_new)
    · exact ((((Chg.refl NoB w).alloc _).alloc _).drewN _).alloc _
  case round =>
    obtain ⟨j, rfl, hj, u, rfl, HV⟩ := hrel
    by_cases hlt : j < x.kids.length
    · obtain ⟨y, hy⟩ : ∃ y, x.kids[j]? = some y := ⟨_, List.getElem?_eq_getElem (by omega)⟩
      obtain ⟨b, A, rfl, hb, hF, hr, hxa⟩ := HK.out j y hy
      obtain ⟨l, Es, v, hlj, hV⟩ := HV.out
      have VI := Lib.hid hV
      have hr' := range_of_heap (hV.c.keep b hb (fun h => h)) hr
      obtain ⟨a0, a1, a2, a3, a4, a5, a6, a7⟩ := ex_range hr'
      have HXA := Lib.hid (hxa.quiet hV.c)
      have hyl := Ex.kid_lt hy
      have HY := Lib.hid hy
      have HLJ := Lib.hid hlj
      clear hy hr hr' hxa hV hlj
      have XA : Chg NoB wr (wr.alloc A.obj) := (Chg.refl _ _).alloc _
      have HX2 := Lib.hid (HXA.out.quiet XA)
      have C2 := Lib.hid (HCS.out.quiet (VI.out.c.trans XA (fun _ h => .inl h)))
      clear XA
      go_wp2_with fail
      refine (HI.out y A F G ao cap cs _ (by omega) hm HX2.out C2.out).mono ?_
      intro e w2 ho
      have X2 : Hid (Chg NoB wr w2) := Lib.hid (((Chg.refl NoB wr).alloc A.obj).trans ho.1 (fun _ h => .inl h))
      have s2 : wr.heap.size < w2.heap.size := by have := ho.1.size; simp at this; omega
      obtain ⟨q, hq⟩ : ∃ q, bindL cs y = q := ⟨_, rfl⟩
      have HQ := Lib.hid hq
      rw [hq] at ho
      clear hq
      have Z2 := Lib.hid (X2.out.heap VI.out.z (fun h => h))
      have CW2 : Hid (Chg NoB w w2) := Lib.hid (VI.out.c.trans X2.out (fun _ h => .inl h))
      have s0 := lt_of_heap VI.out.y
      have s4 : w.heap.size + 1 < w2.heap.size := by omega
      have s5 : w.heap.size + 1 + 1 < w2.heap.size := by omega
      obtain ⟨z0, z1, z2, z3, z4, z5, z6, z7⟩ := ExCells.of Z2.out
      have fz : ∀ o, w2.frozen? ⟨w.heap.size + 1, o, none⟩ = false := fun o => frozen_of_row w2 _ o _ _ Z2.out
      rcases q with _ | ⟨zt, ty⟩
      · obtain ⟨_, t, er, her, rfl⟩ := ho
        have hnb : (er == 0) = false := by simpa using her
        have HN : Hid (bindL cs x = none) := Lib.hid (by rw [HB.out]; unfold bkOut; rw [bkL_none cs HY.out HQ.out])
        go_wp2
        exact ex_ret3a _ zeroE rfl rfl Z2.out (fun w' c => BOut.no (q := er) HN.out (CW2.out.trans c (fun k h => .inr (by unfold OneP at h; omega))) her)
      · obtain ⟨_, B, rfl, hz⟩ := ho
        have HZ := Lib.hid hz
        clear hz
        obtain ⟨va, vc, hv, _⟩ := VI.out.ov.form
        obtain ⟨ua, uc, hu, _⟩ := VI.out.ou.form
        subst hv; subst hu
        have Y2 := Lib.hid (X2.out.heap VI.out.y (fun h => h))
        have y7 : w2.cell? ⟨w.heap.size + 1 + 1, 7, none⟩ = some (.slice va l.length vc) := cell_of_row w2 _ 7 _ _ _ Y2.out
        have fy : ∀ o, w2.frozen? ⟨w.heap.size + 1 + 1, o, none⟩ = false := fun o => frozen_of_row w2 _ o _ _ Y2.out
        clear z0 z1 z2 z3 z4 z5 z6 z7 fz
        have hlen : l.length ≤ 2 := by have := HLJ.out; omega
        have O2 := Lib.hid (VI.out.ov.quiet X2.out)
        have U2 := Lib.hid (VI.out.ou.quiet X2.out)
        have s3 := X2.out.size
        go_wp2_with (at_builtin; go_loud (refine own_app ex_ok rfl _ _ rfl (w.heap.size + 1 + 1 + 1) _ l.length (exCells Es) rfl (Own.quiet O2.out (((Chg.refl _ _).alloc _).alloc _)) (fun _ => True) _ 1 B.cells rfl (row_one (hal_new' ?_) trivial) rfl ?_ ?_ ?_ ?_ ?_))
        · simp
        · exact B.one
        · unfold maxLen; omega
        · omega
        · simp; omega
        · intro v9 w9 r9 x9 nb9
          obtain ⟨ao9, cap9, rfl, _⟩ := r9.form
          have y9 := Lib.hid ((((Chg.refl (fun g => (Value.slice va l.length vc).ownBlock = some g) w2).alloc B.obj).alloc B.obj).trans x9 (fun k h => .inl h))
          have R9 := Lib.hid r9
          have N9 : Hid (∀ g, (Value.slice ao9 (l.length + 1) cap9).ownBlock = some g → (Value.slice va l.length vc).ownBlock = some g ∨ w2.heap.size ≤ g) := Lib.hid (fun g hg => by rcases nb9 g hg with h | h; exact .inl h; exact .inr (by first | omega | (simp at h; omega)))
          have U9 := Lib.hid (U2.out.chg y9.out (fun g hg e => VI.out.ne g e hg))
          have Y9 := Lib.hid (y9.out.heap Y2.out (fun e => by have := VI.out.ov.lo _ e; omega))
          have s9 := y9.out.size
          clear r9 x9 nb9 y7 fy
          go_wp2_with (at_builtin; refine own_app int_ok rfl _ _ rfl (w.heap.size + 1 + 1 + 1) _ l.length (l.map fun p => .int .i64 p.2) rfl (Own.quiet U9.out ((Chg.refl _ _).alloc _)) (fun _ => True) _ 1 [.int .i64 ty] rfl (row_one (hal_new' ?_) trivial) rfl ?_ ?_ ?_ ?_ ?_)
          · simp
          · intro q hq; simp at hq; subst hq; rfl
          · unfold maxLen; omega
          · omega
          · simp; omega
          · intro v11 w11 r11 x11 nb11
            obtain ⟨ao11, cap11, rfl, _⟩ := r11.form
            have y11 := Lib.hid (((Chg.refl (fun g => (Value.slice ua l.length uc).ownBlock = some g) w9).alloc (.cells #[.int .i64 ty] 3)).trans x11 (fun k h => .inl h))
            have R11 := Lib.hid r11
            have N11 : Hid (∀ g, (Value.slice ao11 (l.length + 1) cap11).ownBlock = some g → (Value.slice ua l.length uc).ownBlock = some g ∨ w9.heap.size ≤ g) := Lib.hid (fun g hg => by rcases nb11 g hg with h | h; exact .inl h; exact .inr (by first | omega | (simp at h; omega)))
            have Y11 := Lib.hid (y11.out.heap Y9.out (fun e => by have := VI.out.ou.lo _ e; omega))
            have y7 : w11.cell? ⟨w.heap.size + 1 + 1, 7, none⟩ = some (.slice va l.length vc) := cell_of_row w11 _ 7 _ _ _ Y11.out
            have fy : ∀ o, w11.frozen? ⟨w.heap.size + 1 + 1, o, none⟩ = false := fun o => frozen_of_row w11 _ o _ _ Y11.out
            have ST := Lib.hid (BInv.step (y := y) VI.out (by rw [HLJ.out]; exact HY.out) HQ.out X2.out (HZ.out.mono fun q hq _ => by simp at hq; omega) y9.out R9.out N9.out y11.out R11.out N11.out)
            clear r11 x11 nb11
            go_wp2
            go_round
            case rel =>
             exact ⟨j + 1, by go_num, by omega, _, rfl, Lib.hid ⟨_, _, _, by rw [List.length_append, HLJ.out]; rfl, ST.out⟩⟩
            case measure => simp [intOf]; omega
    · obtain rfl : j = x.kids.length := by omega
      obtain ⟨l, Es, v, hlj, hV⟩ := HV.out
      have hl12 : l.length = 1 ∨ l.length = 2 := by omega
      have hkk : (l.length = 1 ∧ unK x.kind = true) ∨ (l.length = 2 ∧ binK x.kind = true) := by
        rcases hl12 with h1 | h1
        · exact .inl ⟨h1, kidsN_un (by rw [← HKN.out, ← hlj, h1]; rfl)⟩
        · exact .inr ⟨h1, kidsN_bin (by rw [← HKN.out, ← hlj, h1]; rfl)⟩
      obtain ⟨va, vc, hv, hg⟩ := hV.ov.form
      obtain ⟨g, rfl, _⟩ := hg (by omega)
      subst hv
      obtain ⟨ua, uc, hu, _⟩ := hV.ou.form
      subst hu
      have HR : Hid (RowAt wr (fun q => w.heap.size + 1 + 1 + 1 ≤ q) (.slice ua l.length uc) l.length ((l.map Prod.snd).map (Value.int .i64))) := Lib.hid (by rw [List.map_map]; exact hV.ou.read)
      have VI := Lib.hid hV
      have ND := Lib.hid (hV.node hl12)
      have HK2 := Lib.hid hkk
      have HL2 := Lib.hid hl12
      have HD : Hid (bindL cs x = match typedL x.kind (l.map Prod.snd) with
          | none => none
          | some t => some (mkX x.kind l, t)) := Lib.hid (by
        have h1 := hV.done
        rw [hlj, List.take_length] at h1
        rw [HB.out]; unfold bkOut; rw [h1]; rfl)
      have x0 : wr.cell? ⟨w.heap.size, 0, none⟩ = some (.int .i64 x.kind) := cell_of_row wr _ 0 _ _ _ hV.x
      have HLJ := Lib.hid hlj
      clear hlj hV hl12 hkk hg
      go_wp2_with fail
      refine (typed_any x.kind (l.map Prod.snd) l.length (by simp) _ _ _ _ HK2.out HR.out).mono ?_
      rintro e w5 ⟨c5, t, rfl, ht⟩
      have HT := Lib.hid ht
      have X5 := Lib.hid (VI.out.c.trans c5 (fun _ h => .inl h))
      have Z5 := Lib.hid (c5.heap VI.out.z (fun h => h))
      have Y5 := Lib.hid (c5.heap VI.out.y (fun h => h))
      have N5 := Lib.hid (ND.out.quiet c5)
      have s5 := lt_of_heap Y5.out
      obtain ⟨z0, z1, z2, z3, z4, z5, z6, z7⟩ := ExCells.of Z5.out
      obtain ⟨y0, y1, y2, y3, y4, y5, y6, y7⟩ := ExCells.of (E := ⟨x.kind, 0, 0, [], [], [], 0, some ⟨g, 0, none⟩, l.length, vc⟩) Y5.out
      have fz : ∀ o, w5.frozen? ⟨w.heap.size + 1, o, none⟩ = false := fun o => frozen_of_row w5 _ o _ _ Z5.out
      clear ht c5 x0
      obtain ⟨q, hq⟩ : ∃ q, typedL x.kind (l.map Prod.snd) = q := ⟨_, rfl⟩
      rw [hq] at HD HT ⊢
      clear hq
      rcases q with _ | ty
      · go_wp2
        exact ex_ret3 zeroE rfl rfl Z5.out (fun w' c => BOut.no (q := 33) HD.out (X5.out.trans c (fun k h => .inr (by unfold OneP at h; omega))) (by decide))
      · obtain rfl := HT.out _ rfl
        go_wp2
        exact ex_ret3 ⟨x.kind, 0, 0, [], [], [], 0, some ⟨g, 0, none⟩, l.length, vc⟩ rfl rfl Z5.out (fun w' c => BOut.yes HD.out (X5.out.trans c (fun k h => .inr (by unfold OneP at h; omega))) ((ExAt.chg c (fun q hq e => by unfold OneP at e; omega) _ _ N5.out).mono fun q hq _ => by omega))
set_option maxRecDepth 100000 in
set_option maxHeartbeats 4000000 in
theorem bind_any : ∀ (n : Nat) (x : Ex) (E : ExF) (F G : Nat → Prop) (ao : Option Addr) (cap : Nat) (cs : List Bcol) (w : World), x.hgt ≤ n → cs.length ≤ 100000 → ExAt w F x E → BcolsAt w G (.slice ao cs.length cap) cs →
    Calls Tryz.prog 17 #[E.val, .slice ao cs.length cap] w (BOut (bindL cs x) w) := by
  intro n
  induction n with
  | zero => intro x E F G ao cap cs w h; cases x <;> simp [Ex.hgt] at h
  | succ n ih =>
    intro x E F G ao cap cs w hn hm hx hcs
    by_cases h0 : 0 < x.kids.length
    · have hek := hx.kind
      have hm2 := hx.kid.1
      by_cases ha : aggB x.kind = true
      · exact bind_aggr E _ w _ (bind_none cs (.inl ha) h0) (by rw [hek]; exact ha)
      · have ha : aggB x.kind = false := by simpa using ha
        by_cases hk : (x.kids.length : Int) = kidsN x.kind
        · exact bind_node n ih x E F G ao cap cs w hn hm hx hcs h0 hk ha
        · exact bind_kids E _ w _ (bind_none cs (.inr hk) h0) (by rw [hek]; exact ha) (by rw [hek, hm2]; exact hk)
    · cases x with
      | val v => subst hx; exact bind_val cs v _ w
      | col t c => subst hx; exact bind_col cs t c G ao cap w hm hcs
      | slot i =>
        subst hx
        exact bind_kids ⟨24, 0, 0, [], [], [], i, none, 0, 0⟩ _ w _ rfl rfl (by show ¬ ((0 : Nat) : Int) = kidsN 24; decide)
      | cnt =>
        subst hx
        exact bind_aggr ⟨20, 0, 0, [], [], [], 0, none, 0, 0⟩ _ w _ rfl rfl
      | un k a => simp [Ex.kids] at h0
      | bin k a b => simp [Ex.kids] at h0
end Go.Proofs.YtnbckfkdmkbopaaGreatDoor
