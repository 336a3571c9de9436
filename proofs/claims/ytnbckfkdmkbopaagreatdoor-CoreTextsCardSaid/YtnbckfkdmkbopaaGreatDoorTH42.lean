/-
  Plans: Choose. Condition: the indexes are as many as a slice may have.
-/
import Derived.Test.YtnbckfkdmkbopaaGreatDoorTH41
import Derived.Test.YtnbckfkdmkbopaaGreatDoorTH35
set_option autoImplicit false
namespace Go.Proofs.YtnbckfkdmkbopaaGreatDoor
open Go Go.RowKit

/-- what is read of a table -/
structure RdF where
  col : Int
  lo : Val
  hi : Val
abbrev RdF.cells (r : RdF) : List Value := [sv [116], .int .i64 r.col, .int .i64 r.lo.kind, .int .i64 r.lo.num, sv r.lo.str, .int .i64 r.hi.kind, .int .i64 r.hi.num, sv r.hi.str]
abbrev RdF.val (r : RdF) : Value := .agg #[sv [116], .int .i64 r.col, .int .i64 r.lo.kind, .int .i64 r.lo.num, sv r.lo.str, .int .i64 r.hi.kind, .int .i64 r.hi.num, sv r.hi.str]
abbrev RdF.obj (r : RdF) : Obj := .cells #[sv [116], .int .i64 r.col, .int .i64 r.lo.kind, .int .i64 r.lo.num, sv r.lo.str, .int .i64 r.hi.kind, .int .i64 r.hi.num, sv r.hi.str] 33 (0, 0)
def RdF.all : RdF := ⟨-1, Val.null, Val.null⟩
/-- is such a read chosen for such a question? -/
def RdF.ok (q : Option (Nat × Int × Val)) (r : RdF) : Prop := r = RdF.all ∨ ∃ i k v, q = some (i, k, v) ∧ r = ⟨(i : Int), loL k v, hiL k v⟩
def COut (q : Option (Nat × Int × Val)) (w : World) (e : Ending) (w' : World) : Prop := Chg NoB w w' ∧ ∃ (r : RdF) (n : Int), e = .returned (.tuple #[r.val, .int .i64 n]) ∧ r.ok q
/-- what stands behind the question -/
structure CMid (w : World) (q : Option (Nat × Int × Val)) (i k : Int) (v : Val) (b9 b11 : Nat) (tv iv : Value) (wx : World) : Prop where
  n9 : w.heap.size + 3 < b9
  n11 : w.heap.size + 3 < b11
  ne : b9 ≠ b11
  h9 : wx.heap[b9]? = some (.cells #[.int .i64 i] 3 (0, 0))
  h11 : wx.heap[b11]? = some v.obj
  q : (q = none ∧ i = 0 ∧ k = 0 ∧ v = Val.null) ∨ (∃ n : Nat, q = some (n, k, v) ∧ i = n)
  c : Chg NoB w wx
  tab : wx.heap[w.heap.size]? = some (.cells #[sv [116], tv] 38 (0, 0))
  ix : wx.heap[w.heap.size + 1]? = some (.cells #[iv] 23 (0, 0))
  res : wx.heap[w.heap.size + 1 + 1]? = some (.cells #[sv [], .int .i64 0, .int .i64 0, .int .i64 0, sv [], .int .i64 0, .int .i64 0, sv []] 33 (0, 0))
  all : wx.heap[w.heap.size + 1 + 1 + 1]? = some (RdF.obj RdF.all)
theorem QOut.form {r : Option (Nat × Int × Val)} {w w' : World} {e : Ending} (h : QOut r w e w') : ∃ (i k : Int) (v : Val), e = .returned (.tuple #[.int .i64 i, .int .i64 k, v.val]) ∧ ((r = none ∧ i = 0 ∧ k = 0 ∧ v = Val.null) ∨ (∃ n : Nat, r = some (n, k, v) ∧ i = n)) ∧ Chg NoB w w' := by
  obtain ⟨c, h⟩ := h
  rcases r with _ | ⟨n, k, v⟩
  · exact ⟨0, 0, Val.null, h, .inl ⟨rfl, rfl, rfl, rfl⟩, c⟩
  · exact ⟨n, k, v, h, .inr ⟨n, rfl, rfl⟩, c⟩
theorem ccell {W w2 : World} (c : Chg NoB W w2) : (∀ b o, b < W.heap.size → w2.cell? ⟨b, o, none⟩ = W.cell? ⟨b, o, none⟩) ∧ (∀ b o, b < W.heap.size → w2.frozen? ⟨b, o, none⟩ = W.frozen? ⟨b, o, none⟩) := by
  refine ⟨fun b o h => cell_of_heap (c.keep b h (fun h => h)), fun b o h => ?_⟩
  have := c.keep b h (fun h => h)
  simp only [World.frozen?, this]
theorem rd_lo {w : World} {b : Nat} {r : RdF} (h : w.heap[b]? = some r.obj) (v : Val) : (((w.setCell ⟨b, 2, none⟩ (.int .i64 v.kind)).setCell ⟨b, 3, none⟩ (.int .i64 v.num)).setCell ⟨b, 4, none⟩ (sv v.str)).heap[b]? = some (RdF.obj ⟨r.col, v, r.hi⟩) := by
  have h1 := hset_eq (i := 2) (v := .int .i64 v.kind) h
  have h2 := hset_eq (i := 3) (v := .int .i64 v.num) h1
  exact hset_eq (i := 4) (v := sv v.str) h2
theorem rd_hi {w : World} {b : Nat} {r : RdF} (h : w.heap[b]? = some r.obj) (v : Val) : (((w.setCell ⟨b, 5, none⟩ (.int .i64 v.kind)).setCell ⟨b, 6, none⟩ (.int .i64 v.num)).setCell ⟨b, 7, none⟩ (sv v.str)).heap[b]? = some (RdF.obj ⟨r.col, r.lo, v⟩) := by
  have h1 := hset_eq (i := 5) (v := .int .i64 v.kind) h
  have h2 := hset_eq (i := 6) (v := .int .i64 v.num) h1
  exact hset_eq (i := 7) (v := sv v.str) h2
theorem chg_setI3 {w : World} {b i j k : Nat} (c0 c1 c2 : Value) : Chg (OneP b) w (((w.setCell ⟨b, i, none⟩ c0).setCell ⟨b, j, none⟩ c1).setCell ⟨b, k, none⟩ c2) :=
  Chg.setCell (p := ⟨b, k, none⟩) (Chg.setCell (p := ⟨b, j, none⟩) (Chg.setCell (p := ⟨b, i, none⟩) (Chg.refl (OneP b) w) (.inl rfl) _) (.inl rfl) _) (.inl rfl) _
def RdCells (w : World) (b : Nat) (r : RdF) : Prop := w.cell? ⟨b, 0, none⟩ = some (sv [116]) ∧ w.cell? ⟨b, 1, none⟩ = some (.int .i64 r.col) ∧ w.cell? ⟨b, 2, none⟩ = some (.int .i64 r.lo.kind) ∧ w.cell? ⟨b, 3, none⟩ = some (.int .i64 r.lo.num) ∧
  w.cell? ⟨b, 4, none⟩ = some (sv r.lo.str) ∧ w.cell? ⟨b, 5, none⟩ = some (.int .i64 r.hi.kind) ∧ w.cell? ⟨b, 6, none⟩ = some (.int .i64 r.hi.num) ∧ w.cell? ⟨b, 7, none⟩ = some (sv r.hi.str)
theorem RdCells.of {w : World} {b : Nat} {r : RdF} (h : w.heap[b]? = some r.obj) : RdCells w b r :=
  ⟨cell_of_row w b 0 _ _ _ h, cell_of_row w b 1 _ _ _ h, cell_of_row w b 2 _ _ _ h, cell_of_row w b 3 _ _ _ h, cell_of_row w b 4 _ _ _ h, cell_of_row w b 5 _ _ _ h, cell_of_row w b 6 _ _ _ h, cell_of_row w b 7 _ _ _ h⟩
abbrev rd0 : Obj := .cells #[sv [], .int .i64 0, .int .i64 0, .int .i64 0, sv [], .int .i64 0, .int .i64 0, sv []] 33 (0, 0)
theorem rd_set {w : World} {b : Nat} (h : w.heap[b]? = some rd0) (r : RdF) : ((((((((w.setCell ⟨b, 0, none⟩ (sv [116])).setCell ⟨b, 1, none⟩ (.int .i64 r.col)).setCell ⟨b, 2, none⟩ (.int .i64 r.lo.kind)).setCell ⟨b, 3, none⟩ (.int .i64 r.lo.num)).setCell ⟨b, 4, none⟩ (sv r.lo.str)).setCell ⟨b, 5, none⟩ (.int .i64 r.hi.kind)).setCell ⟨b, 6, none⟩ (.int .i64 r.hi.num)).setCell ⟨b, 7, none⟩ (sv r.hi.str)).heap[b]? = some r.obj := by
  have h := hset_eq (i := 0) (v := sv [116]) h
  have h := hset_eq (i := 1) (v := .int .i64 r.col) h
  have h := hset_eq (i := 2) (v := .int .i64 r.lo.kind) h
  have h := hset_eq (i := 3) (v := .int .i64 r.lo.num) h
  have h := hset_eq (i := 4) (v := sv r.lo.str) h
  have h := hset_eq (i := 5) (v := .int .i64 r.hi.kind) h
  have h := hset_eq (i := 6) (v := .int .i64 r.hi.num) h
  exact hset_eq (i := 7) (v := sv r.hi.str) h
theorem rd_ret {fn : Func} {Q : Ending → World → Prop} {tmps : Array Value} {w : World} {b : Nat} (r : RdF) (hres : fn.results = #[.cell 6 33, .tmp 7]) (hq : tmps.getD 6 undef = .pointer (some ⟨b, 0, none⟩)) (hb : w.heap[b]? = some rd0)
    (hQ : ∀ w', Chg (OneP b) w w' → Q (.returned (.tuple #[r.val, tmps.getD 7 undef])) w') :
    bodyPost Tryz.prog fn Q Exit.ret ⟨tmps, []⟩ ((((((((w.setCell ⟨b, 0, none⟩ (sv [116])).setCell ⟨b, 1, none⟩ (.int .i64 r.col)).setCell ⟨b, 2, none⟩ (.int .i64 r.lo.kind)).setCell ⟨b, 3, none⟩ (.int .i64 r.lo.num)).setCell ⟨b, 4, none⟩ (sv r.lo.str)).setCell ⟨b, 5, none⟩ (.int .i64 r.hi.kind)).setCell ⟨b, 6, none⟩ (.int .i64 r.hi.num)).setCell ⟨b, 7, none⟩ (sv r.hi.str)) :=
  bodyPost_ret (v := .tuple #[r.val, tmps.getD 7 undef]) (results_big2 (P := Tryz.prog) hres tmps _ b r.cells _ hq (range_block (rd_set hb r)) Tryz.underlying33 rfl (by kernel_rfl)) rfl (hQ _ (chg_set8 (Chg.refl (OneP b) w) (.inl rfl) _ _ _ _ _ _ _ _))
theorem quest_turn (cs : List Bcol) : ∀ (y : Ex) (i : Nat) (k : Int) (v : Val), questL cs y = some (i, k, v) → turnL k ≠ 0
  | .bin k a b, i, k', v, h => by
    simp only [questL] at h
    split at h
    · exact quest_turn cs a i k' v h
    · split at h
      · cases h
      · rename_i ht
        split at h
        · obtain ⟨_, _, _, _, _, _, e⟩ := cmpQ_some h
          cases e
          exact ht
        · obtain ⟨_, _, _, _, _, _, e⟩ := cmpQ_some h
          cases e
          exact turn_ne ht
  | .val _, _, _, _, h => by simp [questL] at h
  | .slot _, _, _, _, h => by simp [questL] at h
  | .col _ _, _, _, _, h => by simp [questL] at h
  | .cnt, _, _, _, h => by simp [questL] at h
  | .un _ _, _, _, _, h => by simp [questL] at h
/-- what stands while the read is made -/
structure CR (w : World) (n : Nat) (v : Val) (b9 b11 rb : Nat) (iv : Value) (r : RdF) (W : World) : Prop where
  g9 : w.heap.size + 3 < b9
  g11 : w.heap.size + 3 < b11
  l9 : b9 < rb
  l11 : b11 < rb
  c : Chg NoB w W
  ix : W.heap[w.heap.size + 1]? = some (.cells #[iv] 23 (0, 0))
  res : W.heap[w.heap.size + 1 + 1]? = some rd0
  all : W.heap[w.heap.size + 1 + 1 + 1]? = some (RdF.obj RdF.all)
  h9 : W.heap[b9]? = some (.cells #[.int .i64 n] 3 (0, 0))
  h11 : W.heap[b11]? = some v.obj
  hr : W.heap[rb]? = some r.obj
theorem CR.quiet {w : World} {n : Nat} {v : Val} {b9 b11 rb : Nat} {iv : Value} {r : RdF} {W W' : World} (h : CR w n v b9 b11 rb iv r W) (c : Chg NoB W W') : CR w n v b9 b11 rb iv r W' :=
  ⟨h.g9, h.g11, h.l9, h.l11, h.c.trans c (fun _ h => .inl h), c.heap h.ix (fun h => h), c.heap h.res (fun h => h), c.heap h.all (fun h => h), c.heap h.h9 (fun h => h), c.heap h.h11 (fun h => h), c.heap h.hr (fun h => h)⟩
theorem CR.step {w : World} {n : Nat} {v : Val} {b9 b11 rb : Nat} {iv : Value} {r r' : RdF} {W W' : World} (h : CR w n v b9 b11 rb iv r W) (c : Chg (OneP rb) W W') (hr : W'.heap[rb]? = some r'.obj) : CR w n v b9 b11 rb iv r' W' := by
  have g9 := h.g9; have g11 := h.g11; have l9 := h.l9; have l11 := h.l11
  exact ⟨g9, g11, l9, l11, h.c.trans c (fun q e => .inr (by unfold OneP at e; omega)), c.heap h.ix (by unfold OneP; omega), c.heap h.res (by unfold OneP; omega), c.heap h.all (by unfold OneP; omega), c.heap h.h9 (by unfold OneP; omega), c.heap h.h11 (by unfold OneP; omega), hr⟩
theorem rd0_cells {w : World} {b : Nat} (h : w.heap[b]? = some rd0) : w.cell? ⟨b, 0, none⟩ = some (sv []) ∧ w.cell? ⟨b, 1, none⟩ = some (.int .i64 0) ∧ w.cell? ⟨b, 2, none⟩ = some (.int .i64 0) ∧ w.cell? ⟨b, 3, none⟩ = some (.int .i64 0) ∧ w.cell? ⟨b, 4, none⟩ = some (sv []) ∧ w.cell? ⟨b, 5, none⟩ = some (.int .i64 0) ∧ w.cell? ⟨b, 6, none⟩ = some (.int .i64 0) ∧ w.cell? ⟨b, 7, none⟩ = some (sv []) :=
  ⟨cell_of_row w _ 0 _ _ _ h, cell_of_row w _ 1 _ _ _ h, cell_of_row w _ 2 _ _ _ h, cell_of_row w _ 3 _ _ _ h, cell_of_row w _ 4 _ _ _ h, cell_of_row w _ 5 _ _ _ h, cell_of_row w _ 6 _ _ _ h, cell_of_row w _ 7 _ _ _ h⟩
set_option maxRecDepth 100000 in
set_option maxHeartbeats 4000000 in
theorem choose_any (cs : List Bcol) (hcs : cs.length = 4) (y : Ex) (t : Int) (ht : tyL cs y = some t) (E : ExF) (eb ec tb tc : Nat) (F G H : Nat → Prop) (l : List IdxR) (hl : l.length ≤ 100000000000000) (ao : Option Addr) (cap : Nat) (w : World)
    (heb : eb < w.heap.size) (hE : w.rangeAt eb 0 E.cells) (hx : ExAt w F y E) (hT : TabT w G cs tb) (hI : IdxsAt w H (.slice ao l.length cap) l) :
    Calls Tryz.prog 7 #[.slice (some ⟨eb, 0, none⟩) 1 ec, .agg #[sv [116], .slice (some ⟨tb, 0, none⟩) 4 tc], .slice ao l.length cap] w (COut (questL cs y) w) := by
  have HQ : Hid (∀ W, Chg NoB w W → Calls Tryz.prog 19 #[E.val, .agg #[sv [116], .slice (some ⟨tb, 0, none⟩) 4 tc]] W (QOut (questL cs y) W)) := Lib.hid fun W c => question_any cs hcs y t ht E F G tb tc W (ExAt.quiet c hx) (hT.quiet c)
  have HI := Lib.hid hI
  have HE := Lib.hid hE
  obtain ⟨e0, e1, e2, e3, e4, e5, e6, e7⟩ := ex_range hE
  clear hx hT hI hE ht hcs
  go_enter Tryz.func7, Tryz.ntmps7
  go_wp2_with fail
  go_upto_region 4 with (fail)
  go_cut [9, 10, 11] (fun s9 s10 s11 wx => ∃ (b9 b11 : Nat) (i k : Int) (v : Val), s9 = .pointer (some ⟨b9, 0, none⟩) ∧ s10 = .int .i64 k ∧ s11 = .pointer (some ⟨b11, 0, none⟩) ∧ Hid (CMid w (questL cs y) i k v b9 b11 (.slice (some ⟨tb, 0, none⟩) 4 tc) (.slice ao l.length cap) wx))
  case first =>
    have X0 : Hid (Chg NoB w ((((w.alloc (.cells #[sv [116], .slice (some ⟨tb, 0, none⟩) 4 tc] 38)).alloc (.cells #[.slice ao l.length cap] 23)).alloc (.cells #[sv [], .int .i64 0, .int .i64 0, .int .i64 0, sv [], .int .i64 0, .int .i64 0, sv []] 33)).alloc (RdF.obj RdF.all))) := Lib.hid (((((Chg.refl NoB w).alloc _).alloc _).alloc _).alloc _)
    have T0 : Hid (((((w.alloc (.cells #[sv [116], .slice (some ⟨tb, 0, none⟩) 4 tc] 38)).alloc (.cells #[.slice ao l.length cap] 23)).alloc (.cells #[sv [], .int .i64 0, .int .i64 0, .int .i64 0, sv [], .int .i64 0, .int .i64 0, sv []] 33)).alloc (RdF.obj RdF.all)).heap[w.heap.size]? = some (.cells #[sv [116], .slice (some ⟨tb, 0, none⟩) 4 tc] 38 (0, 0))) := Lib.hid ((hal_old (by first | (simp; done) | (simp; omega))).trans ((hal_old (by first | (simp; done) | (simp; omega))).trans ((hal_old (by simp)).trans hal_new)))
    have I0 : Hid (((((w.alloc (.cells #[sv [116], .slice (some ⟨tb, 0, none⟩) 4 tc] 38)).alloc (.cells #[.slice ao l.length cap] 23)).alloc (.cells #[sv [], .int .i64 0, .int .i64 0, .int .i64 0, sv [], .int .i64 0, .int .i64 0, sv []] 33)).alloc (RdF.obj RdF.all)).heap[w.heap.size + 1]? = some (.cells #[.slice ao l.length cap] 23 (0, 0))) := Lib.hid ((hal_old (by first | (simp; done) | (simp; omega))).trans ((hal_old (by simp)).trans (hal_new' (by simp))))
    have R0 : Hid (((((w.alloc (.cells #[sv [116], .slice (some ⟨tb, 0, none⟩) 4 tc] 38)).alloc (.cells #[.slice ao l.length cap] 23)).alloc (.cells #[sv [], .int .i64 0, .int .i64 0, .int .i64 0, sv [], .int .i64 0, .int .i64 0, sv []] 33)).alloc (RdF.obj RdF.all)).heap[w.heap.size + 1 + 1]? = some (.cells #[sv [], .int .i64 0, .int .i64 0, .int .i64 0, sv [], .int .i64 0, .int .i64 0, sv []] 33 (0, 0))) := Lib.hid ((hal_old (by simp)).trans (hal_new' (by simp)))
    have A0 : Hid (((((w.alloc (.cells #[sv [116], .slice (some ⟨tb, 0, none⟩) 4 tc] 38)).alloc (.cells #[.slice ao l.length cap] 23)).alloc (.cells #[sv [], .int .i64 0, .int .i64 0, .int .i64 0, sv [], .int .i64 0, .int .i64 0, sv []] 33)).alloc (RdF.obj RdF.all)).heap[w.heap.size + 1 + 1 + 1]? = some (RdF.obj RdF.all)) := Lib.hid (hal_new' (by simp))
    generalize hW0 : World.alloc _ _ = W0
    rw [show ((((w.alloc (.cells #[sv [116], .slice (some ⟨tb, 0, none⟩) 4 tc] 38)).alloc (.cells #[.slice ao l.length cap] 23)).alloc (.cells #[sv [], .int .i64 0, .int .i64 0, .int .i64 0, sv [], .int .i64 0, .int .i64 0, sv []] 33)).alloc (RdF.obj RdF.all)) = W0 from hW0] at X0 T0 I0 R0 A0
    clear hW0 e0 e1 e2 e3 e4 e5 e6 e7
    obtain ⟨e0, e1, e2, e3, e4, e5, e6, e7⟩ := ex_range (range_of_heap (X0.out.keep eb heb (fun h => h)) HE.out)
    have t0 : W0.cell? ⟨w.heap.size, 0, none⟩ = some (sv [116]) := cell_of_row W0 _ 0 _ _ _ T0.out
    have t1 : W0.cell? ⟨w.heap.size, 1, none⟩ = some (.slice (some ⟨tb, 0, none⟩) 4 tc) := cell_of_row W0 _ 1 _ _ _ T0.out
    have HS : Hid (∀ V, Chg NoB W0.drew V → V.cell? ⟨eb, 0, none⟩ = some (.int .i64 E.k) ∧ V.cell? ⟨eb, 1, none⟩ = some (.int .i64 E.vk) ∧ V.cell? ⟨eb, 2, none⟩ = some (.int .i64 E.vn) ∧ V.cell? ⟨eb, 3, none⟩ = some (sv E.vs) ∧ V.cell? ⟨eb, 4, none⟩ = some (sv E.t) ∧ V.cell? ⟨eb, 5, none⟩ = some (sv E.n) ∧ V.cell? ⟨eb, 6, none⟩ = some (.int .i64 E.s) ∧ V.cell? ⟨eb, 7, none⟩ = some (.slice E.ao E.m E.c) ∧ V.cell? ⟨w.heap.size, 0, none⟩ = some (sv [116]) ∧ V.cell? ⟨w.heap.size, 1, none⟩ = some (.slice (some ⟨tb, 0, none⟩) 4 tc)) := Lib.hid fun V c => by
      obtain ⟨e0, e1, e2, e3, e4, e5, e6, e7⟩ := ex_range (range_of_heap ((X0.out.trans (Chg.trans (Chg.refl NoB W0).drew c (fun _ h => .inl h)) (fun _ h => .inl h)).keep eb heb (fun h => h)) HE.out)
      have T := c.heap (show W0.drew.heap[w.heap.size]? = _ from T0.out) (fun h => h)
      exact ⟨e0, e1, e2, e3, e4, e5, e6, e7, cell_of_row V _ 0 _ _ _ T, cell_of_row V _ 1 _ _ _ T⟩
    have XV : Hid (Chg NoB w W0.drew) := Lib.hid X0.out.drew
    have HM : Hid (∀ (V : World) (b9 b11 : Nat) (i k : Int) (v : Val), W0.drew.heap.size ≤ b9 → W0.drew.heap.size ≤ b11 → b9 ≠ b11 → V.heap[b9]? = some (.cells #[.int .i64 i] 3 (0, 0)) → V.heap[b11]? = some v.obj → ((questL cs y = none ∧ i = 0 ∧ k = 0 ∧ v = Val.null) ∨ (∃ n : Nat, questL cs y = some (n, k, v) ∧ i = n)) → Chg NoB W0.drew V → CMid w (questL cs y) i k v b9 b11 (.slice (some ⟨tb, 0, none⟩) 4 tc) (.slice ao l.length cap) V) := Lib.hid fun V b9 b11 i k v g9 g11 gn p9 p11 hr c => by
      have ls := lt_of_heap A0.out
      have : W0.drew.heap.size = W0.heap.size := rfl
      exact ⟨by omega, by omega, gn, p9, p11, hr, XV.out.trans c (fun _ h => .inl h), c.heap (show W0.drew.heap[_]? = _ from T0.out) (fun h => h), c.heap (show W0.drew.heap[_]? = _ from I0.out) (fun h => h), c.heap (show W0.drew.heap[_]? = _ from R0.out) (fun h => h), c.heap (show W0.drew.heap[_]? = _ from A0.out) (fun h => h)⟩
    clear e0 e1 e2 e3 e4 e5 e6 e7 t0 t1
    refine wp_region_lexF (fun V => V.cell? ⟨eb, 0, none⟩ = some (.int .i64 E.k) ∧ V.cell? ⟨eb, 1, none⟩ = some (.int .i64 E.vk) ∧ V.cell? ⟨eb, 2, none⟩ = some (.int .i64 E.vn) ∧ V.cell? ⟨eb, 3, none⟩ = some (sv E.vs) ∧ V.cell? ⟨eb, 4, none⟩ = some (sv E.t) ∧ V.cell? ⟨eb, 5, none⟩ = some (sv E.n) ∧ V.cell? ⟨eb, 6, none⟩ = some (.int .i64 E.s) ∧ V.cell? ⟨eb, 7, none⟩ = some (.slice E.ao E.m E.c) ∧ V.cell? ⟨w.heap.size, 0, none⟩ = some (sv [116]) ∧ V.cell? ⟨w.heap.size, 1, none⟩ = some (.slice (some ⟨tb, 0, none⟩) 4 tc)) 99 (.free 0 (.free 1 (.free 2 (.free 3 (.tri 4 9 10 (.free 5 (.free 6 (.free 7 (.free 8 (.fork 9 10 (.one 10 (.one 11 (.free 12 (.one 13 .done)))) (.one 9 (.one 11 (.free 12 (.one 13 .done))))))))) (.fork 4 10 (.free 5 (.free 6 (.free 7 (.free 8 (.one 10 (.one 11 (.free 12 (.one 13 .done)))))))) (.one 4 (.free 5 (.free 6 (.free 7 (.free 8 (.one 11 (.free 12 (.one 13 .done))))))))) (.fork 4 9 (.free 5 (.free 6 (.free 7 (.free 8 (.one 9 (.one 11 (.free 12 (.one 13 .done)))))))) (.one 4 (.free 5 (.free 6 (.free 7 (.free 8 (.one 11 (.free 12 (.one 13 .done)))))))))))))) (by kernel_rfl) (by kernel_rfl) (HS.out _ (Chg.refl _ _)) ?_
    have C : Hid (Chg NoB W0.drew W0.drew) := Lib.hid (Chg.refl _ _)
    generalize W0.drew = V0 at HS XV HM C ⊢
    obtain ⟨z0, hz0⟩ : ∃ z, z = V0.heap.size := ⟨_, rfl⟩
    have HZ := Lib.hid hz0
    clear hz0
    clear X0 T0 I0 R0 A0
    iterate 4
      refine' lexF_free (v := _) rfl rfl ?_ (fun _ _ _ h => h) ?_
      rotate_left
      · rintro W ⟨h1, h2, h3, h4, h5, h6, h7, h8, h9, h10⟩
        go_simp
        with_reducible rfl
      try simp only [Act.put, List.setIfInBounds_toArray, List.set_cons_zero, List.set_cons_succ]
    refine lexF_tri rfl rfl rfl rfl rfl rfl ?_ ?_ ?_
    · intro K hK
      go_simp
      refine (HQ.out _ (XV.out.trans C.out (fun _ h => h.elim))).mono ?_
      intro e V1 ho
      obtain ⟨i, k, v, rfl, hr, c2⟩ := ho.form
      have HR := Lib.hid hr
      replace C := Lib.hid (C.out.trans c2 (fun _ h => h.elim))
      clear ho hr c2
      refine hK _ _ (fun _ => HS.out _ C.out) ?_
      clear hK K
      try simp only [Act.put, List.setIfInBounds_toArray, List.set_cons_zero, List.set_cons_succ]
      iterate 4
        refine' lexF_free (v := _) rfl rfl ?_ (fun _ _ _ h => h) ?_
        rotate_left
        · rintro W ⟨h1, h2, h3, h4, h5, h6, h7, h8, h9, h10⟩
          go_simp
          with_reducible rfl
        try simp only [Act.put, List.setIfInBounds_toArray, List.set_cons_zero, List.set_cons_succ]
      refine lexF_fork rfl rfl rfl rfl ?_ ?_
      · intro K hK
        go_simp
        have P9 : Hid ((V1.alloc (.cells #[.int .i64 0] 3)).heap[V1.heap.size]? = some (.cells #[.int .i64 0] 3)) := Lib.hid hal_new
        have G9 : Hid (z0 ≤ V1.heap.size) := Lib.hid (by have := C.out.size; have := HZ.out; omega)
        replace C : Hid (Chg NoB V0 (V1.alloc (.cells #[.int .i64 0] 3))) := Lib.hid (C.out.alloc _)
        refine hK _ _ (fun _ => HS.out _ C.out) ?_
        clear hK K
        try simp only [Act.put, List.setIfInBounds_toArray, List.set_cons_zero, List.set_cons_succ]
        generalize hWW : V1.alloc _ = V2
        rw [show V1.alloc (.cells #[.int .i64 0] 3) = V2 from hWW] at P9 C
        generalize hbb : V1.heap.size = b9 at P9 G9 ⊢
        clear hWW hbb
        refine lexF_one rfl rfl ?_
        intro K hK
        go_simp
        have P10 : Hid ((V2.alloc Val.null.obj).heap[V2.heap.size]? = some Val.null.obj) := Lib.hid hal_new
        have G10 : Hid (z0 ≤ V2.heap.size) := Lib.hid (by have := C.out.size; have := HZ.out; omega)
        have GN : Hid (b9 ≠ V2.heap.size) := Lib.hid (by have := lt_of_heap P9.out; omega)
        replace P9 : Hid ((V2.alloc Val.null.obj).heap[b9]? = some (.cells #[.int .i64 0] 3)) := Lib.hid ((hal_old (lt_of_heap P9.out)).trans P9.out)
        replace C : Hid (Chg NoB V0 (V2.alloc Val.null.obj)) := Lib.hid (C.out.alloc _)
        refine hK _ _ (fun _ => HS.out _ C.out) ?_
        clear hK K
        try simp only [Act.put, List.setIfInBounds_toArray, List.set_cons_zero, List.set_cons_succ]
        generalize hWW : V2.alloc _ = V3
        rw [show V2.alloc Val.null.obj = V3 from hWW] at P10 C P9
        generalize hbb : V2.heap.size = b10 at P10 G10 GN ⊢
        clear hWW hbb
        obtain ⟨v0, v1, v2⟩ := val_cells (V := Val.null) P10.out
        have i0 : V3.cell? ⟨b9, 0, none⟩ = some (.int .i64 0) := cell_of_row V3 _ 0 _ _ _ P9.out
        have f9 : ∀ o, V3.frozen? ⟨b9, o, none⟩ = false := fun o => frozen_of_row V3 _ o _ _ P9.out
        refine lexF_one rfl rfl ?_
        intro K hK
        go_simp
        have N9 : Hid (b9 ≠ b10) := Lib.hid (by have := GN.out; omega)
        replace C : Hid (Chg NoB V0 (V3.setCell ⟨b9, 0, none⟩ (.int .i64 i))) := Lib.hid (C.out.setCell (p := ⟨b9, 0, none⟩) (.inr (by have := G9.out; have := HZ.out; show _ ≤ b9; omega)) _)
        replace P10 : Hid ((V3.setCell ⟨b9, 0, none⟩ (.int .i64 i)).heap[b10]? = some Val.null.obj) := Lib.hid ((hset_ne N9.out.symm).trans P10.out)
        replace P9 : Hid ((V3.setCell ⟨b9, 0, none⟩ (.int .i64 i)).heap[b9]? = some (.cells #[.int .i64 i] 3 (0, 0))) := Lib.hid (hset_eq (i := 0) (v := .int .i64 i) P9.out)
        refine hK _ _ (fun _ => HS.out _ C.out) ?_
        clear hK K
        try simp only [Act.put, List.setIfInBounds_toArray, List.set_cons_zero, List.set_cons_succ]
        generalize hWW : V3.setCell _ _ = U1
        rw [show V3.setCell ⟨b9, 0, none⟩ (.int .i64 i) = U1 from hWW] at C P9 P10
        clear hWW v0 v1 v2 i0 f9
        iterate 1
          refine' lexF_free (v := _) rfl rfl ?_ (fun _ _ _ h => h) ?_
          rotate_left
          · rintro W ⟨h1, h2, h3, h4, h5, h6, h7, h8, h9, h10⟩
            go_simp
            with_reducible rfl
          try simp only [Act.put, List.setIfInBounds_toArray, List.set_cons_zero, List.set_cons_succ]
        obtain ⟨v0, v1, v2⟩ := val_cells (V := Val.null) P10.out
        have f10 : ∀ o, U1.frozen? ⟨b10, o, none⟩ = false := fun o => frozen_of_row U1 _ o _ _ P10.out
        refine lexF_one rfl rfl ?_
        intro K hK
        go_simp
        have c3 := chg_set3 (w := U1) (b := b10) (.int .i64 v.kind) (.int .i64 v.num) (sv v.str)
        replace C := Lib.hid (C.out.trans c3 (fun q e => .inr (by unfold OneP at e; have := G10.out; have := HZ.out; omega)))
        replace P9 := Lib.hid (c3.heap P9.out N9.out)
        replace P10 := Lib.hid (val_set P10.out v)
        clear c3
        refine hK _ _ (fun _ => HS.out _ C.out) ?_
        clear hK K
        try simp only [Act.put, List.setIfInBounds_toArray, List.set_cons_zero, List.set_cons_succ]
        refine lexF_done ?_
        clear v0 v1 v2 f10
        go_wp2_with fail
        go_meet
        exact ⟨b9, b10, i, k, v, rfl, rfl, rfl, Lib.hid (HM.out _ b9 b10 i k v (by have := G9.out; have := HZ.out; omega) (by have := G10.out; have := HZ.out; omega) N9.out P9.out P10.out HR.out C.out)⟩
      · intro K hK
        go_simp
        have P10 : Hid ((V1.alloc Val.null.obj).heap[V1.heap.size]? = some Val.null.obj) := Lib.hid hal_new
        have G10 : Hid (z0 ≤ V1.heap.size) := Lib.hid (by have := C.out.size; have := HZ.out; omega)
        replace C : Hid (Chg NoB V0 (V1.alloc Val.null.obj)) := Lib.hid (C.out.alloc _)
        refine hK _ _ (fun _ => HS.out _ C.out) ?_
        clear hK K
        try simp only [Act.put, List.setIfInBounds_toArray, List.set_cons_zero, List.set_cons_succ]
        generalize hWW : V1.alloc _ = V4
        rw [show V1.alloc Val.null.obj = V4 from hWW] at P10 C
        generalize hbb : V1.heap.size = b10 at P10 G10 ⊢
        clear hWW hbb
        refine lexF_one rfl rfl ?_
        intro K hK
        go_simp
        have P9 : Hid ((V4.alloc (.cells #[.int .i64 0] 3)).heap[V4.heap.size]? = some (.cells #[.int .i64 0] 3)) := Lib.hid hal_new
        have G9 : Hid (z0 ≤ V4.heap.size) := Lib.hid (by have := C.out.size; have := HZ.out; omega)
        have GN : Hid (b10 ≠ V4.heap.size) := Lib.hid (by have := lt_of_heap P10.out; omega)
        replace P10 : Hid ((V4.alloc (.cells #[.int .i64 0] 3)).heap[b10]? = some Val.null.obj) := Lib.hid ((hal_old (lt_of_heap P10.out)).trans P10.out)
        replace C : Hid (Chg NoB V0 (V4.alloc (.cells #[.int .i64 0] 3))) := Lib.hid (C.out.alloc _)
        refine hK _ _ (fun _ => HS.out _ C.out) ?_
        clear hK K
        try simp only [Act.put, List.setIfInBounds_toArray, List.set_cons_zero, List.set_cons_succ]
        generalize hWW : V4.alloc _ = V5
        rw [show V4.alloc (.cells #[.int .i64 0] 3) = V5 from hWW] at P9 C P10
        generalize hbb : V4.heap.size = b9 at P9 G9 GN ⊢
        clear hWW hbb
        obtain ⟨v0, v1, v2⟩ := val_cells (V := Val.null) P10.out
        have i0 : V5.cell? ⟨b9, 0, none⟩ = some (.int .i64 0) := cell_of_row V5 _ 0 _ _ _ P9.out
        have f9 : ∀ o, V5.frozen? ⟨b9, o, none⟩ = false := fun o => frozen_of_row V5 _ o _ _ P9.out
        refine lexF_one rfl rfl ?_
        intro K hK
        go_simp
        have N9 : Hid (b9 ≠ b10) := Lib.hid (by have := GN.out; omega)
        replace C : Hid (Chg NoB V0 (V5.setCell ⟨b9, 0, none⟩ (.int .i64 i))) := Lib.hid (C.out.setCell (p := ⟨b9, 0, none⟩) (.inr (by have := G9.out; have := HZ.out; show _ ≤ b9; omega)) _)
        replace P10 : Hid ((V5.setCell ⟨b9, 0, none⟩ (.int .i64 i)).heap[b10]? = some Val.null.obj) := Lib.hid ((hset_ne N9.out.symm).trans P10.out)
        replace P9 : Hid ((V5.setCell ⟨b9, 0, none⟩ (.int .i64 i)).heap[b9]? = some (.cells #[.int .i64 i] 3 (0, 0))) := Lib.hid (hset_eq (i := 0) (v := .int .i64 i) P9.out)
        refine hK _ _ (fun _ => HS.out _ C.out) ?_
        clear hK K
        try simp only [Act.put, List.setIfInBounds_toArray, List.set_cons_zero, List.set_cons_succ]
        generalize hWW : V5.setCell _ _ = U1
        rw [show V5.setCell ⟨b9, 0, none⟩ (.int .i64 i) = U1 from hWW] at C P9 P10
        clear hWW v0 v1 v2 i0 f9
        iterate 1
          refine' lexF_free (v := _) rfl rfl ?_ (fun _ _ _ h => h) ?_
          rotate_left
          · rintro W ⟨h1, h2, h3, h4, h5, h6, h7, h8, h9, h10⟩
            go_simp
            with_reducible rfl
          try simp only [Act.put, List.setIfInBounds_toArray, List.set_cons_zero, List.set_cons_succ]
        obtain ⟨v0, v1, v2⟩ := val_cells (V := Val.null) P10.out
        have f10 : ∀ o, U1.frozen? ⟨b10, o, none⟩ = false := fun o => frozen_of_row U1 _ o _ _ P10.out
        refine lexF_one rfl rfl ?_
        intro K hK
        go_simp
        have c3 := chg_set3 (w := U1) (b := b10) (.int .i64 v.kind) (.int .i64 v.num) (sv v.str)
        replace C := Lib.hid (C.out.trans c3 (fun q e => .inr (by unfold OneP at e; have := G10.out; have := HZ.out; omega)))
        replace P9 := Lib.hid (c3.heap P9.out N9.out)
        replace P10 := Lib.hid (val_set P10.out v)
        clear c3
        refine hK _ _ (fun _ => HS.out _ C.out) ?_
        clear hK K
        try simp only [Act.put, List.setIfInBounds_toArray, List.set_cons_zero, List.set_cons_succ]
        refine lexF_done ?_
        clear v0 v1 v2 f10
        go_wp2_with fail
        go_meet
        exact ⟨b9, b10, i, k, v, rfl, rfl, rfl, Lib.hid (HM.out _ b9 b10 i k v (by have := G9.out; have := HZ.out; omega) (by have := G10.out; have := HZ.out; omega) N9.out P9.out P10.out HR.out C.out)⟩
    · intro K hK
      go_simp
      have P9 : Hid ((V0.alloc (.cells #[.int .i64 0] 3)).heap[V0.heap.size]? = some (.cells #[.int .i64 0] 3)) := Lib.hid hal_new
      have G9 : Hid (z0 ≤ V0.heap.size) := Lib.hid (by have := C.out.size; have := HZ.out; omega)
      replace C : Hid (Chg NoB V0 (V0.alloc (.cells #[.int .i64 0] 3))) := Lib.hid (C.out.alloc _)
      refine hK _ _ (fun _ => HS.out _ C.out) ?_
      clear hK K
      try simp only [Act.put, List.setIfInBounds_toArray, List.set_cons_zero, List.set_cons_succ]
      generalize hWW : V0.alloc _ = V6
      rw [show V0.alloc (.cells #[.int .i64 0] 3) = V6 from hWW] at P9 C
      generalize hbb : V0.heap.size = b9 at P9 G9 ⊢
      clear hWW hbb
      refine lexF_fork rfl rfl rfl rfl ?_ ?_
      · intro K hK
        go_simp
        refine (HQ.out _ (XV.out.trans C.out (fun _ h => h.elim))).mono ?_
        intro e V7 ho
        obtain ⟨i, k, v, rfl, hr, c2⟩ := ho.form
        have HR := Lib.hid hr
        replace C := Lib.hid (C.out.trans c2 (fun _ h => h.elim))
        replace P9 := Lib.hid (c2.heap P9.out (fun h => h))
        clear ho hr c2
        refine hK _ _ (fun _ => HS.out _ C.out) ?_
        clear hK K
        try simp only [Act.put, List.setIfInBounds_toArray, List.set_cons_zero, List.set_cons_succ]
        iterate 4
          refine' lexF_free (v := _) rfl rfl ?_ (fun _ _ _ h => h) ?_
          rotate_left
          · rintro W ⟨h1, h2, h3, h4, h5, h6, h7, h8, h9, h10⟩
            go_simp
            with_reducible rfl
          try simp only [Act.put, List.setIfInBounds_toArray, List.set_cons_zero, List.set_cons_succ]
        refine lexF_one rfl rfl ?_
        intro K hK
        go_simp
        have P10 : Hid ((V7.alloc Val.null.obj).heap[V7.heap.size]? = some Val.null.obj) := Lib.hid hal_new
        have G10 : Hid (z0 ≤ V7.heap.size) := Lib.hid (by have := C.out.size; have := HZ.out; omega)
        have GN : Hid (b9 ≠ V7.heap.size) := Lib.hid (by have := lt_of_heap P9.out; omega)
        replace P9 : Hid ((V7.alloc Val.null.obj).heap[b9]? = some (.cells #[.int .i64 0] 3)) := Lib.hid ((hal_old (lt_of_heap P9.out)).trans P9.out)
        replace C : Hid (Chg NoB V0 (V7.alloc Val.null.obj)) := Lib.hid (C.out.alloc _)
        refine hK _ _ (fun _ => HS.out _ C.out) ?_
        clear hK K
        try simp only [Act.put, List.setIfInBounds_toArray, List.set_cons_zero, List.set_cons_succ]
        generalize hWW : V7.alloc _ = V8
        rw [show V7.alloc Val.null.obj = V8 from hWW] at P10 C P9
        generalize hbb : V7.heap.size = b10 at P10 G10 GN ⊢
        clear hWW hbb
        obtain ⟨v0, v1, v2⟩ := val_cells (V := Val.null) P10.out
        have i0 : V8.cell? ⟨b9, 0, none⟩ = some (.int .i64 0) := cell_of_row V8 _ 0 _ _ _ P9.out
        have f9 : ∀ o, V8.frozen? ⟨b9, o, none⟩ = false := fun o => frozen_of_row V8 _ o _ _ P9.out
        refine lexF_one rfl rfl ?_
        intro K hK
        go_simp
        have N9 : Hid (b9 ≠ b10) := Lib.hid (by have := GN.out; omega)
        replace C : Hid (Chg NoB V0 (V8.setCell ⟨b9, 0, none⟩ (.int .i64 i))) := Lib.hid (C.out.setCell (p := ⟨b9, 0, none⟩) (.inr (by have := G9.out; have := HZ.out; show _ ≤ b9; omega)) _)
        replace P10 : Hid ((V8.setCell ⟨b9, 0, none⟩ (.int .i64 i)).heap[b10]? = some Val.null.obj) := Lib.hid ((hset_ne N9.out.symm).trans P10.out)
        replace P9 : Hid ((V8.setCell ⟨b9, 0, none⟩ (.int .i64 i)).heap[b9]? = some (.cells #[.int .i64 i] 3 (0, 0))) := Lib.hid (hset_eq (i := 0) (v := .int .i64 i) P9.out)
        refine hK _ _ (fun _ => HS.out _ C.out) ?_
        clear hK K
        try simp only [Act.put, List.setIfInBounds_toArray, List.set_cons_zero, List.set_cons_succ]
        generalize hWW : V8.setCell _ _ = U1
        rw [show V8.setCell ⟨b9, 0, none⟩ (.int .i64 i) = U1 from hWW] at C P9 P10
        clear hWW v0 v1 v2 i0 f9
        iterate 1
          refine' lexF_free (v := _) rfl rfl ?_ (fun _ _ _ h => h) ?_
          rotate_left
          · rintro W ⟨h1, h2, h3, h4, h5, h6, h7, h8, h9, h10⟩
            go_simp
            with_reducible rfl
          try simp only [Act.put, List.setIfInBounds_toArray, List.set_cons_zero, List.set_cons_succ]
        obtain ⟨v0, v1, v2⟩ := val_cells (V := Val.null) P10.out
        have f10 : ∀ o, U1.frozen? ⟨b10, o, none⟩ = false := fun o => frozen_of_row U1 _ o _ _ P10.out
        refine lexF_one rfl rfl ?_
        intro K hK
        go_simp
        have c3 := chg_set3 (w := U1) (b := b10) (.int .i64 v.kind) (.int .i64 v.num) (sv v.str)
        replace C := Lib.hid (C.out.trans c3 (fun q e => .inr (by unfold OneP at e; have := G10.out; have := HZ.out; omega)))
        replace P9 := Lib.hid (c3.heap P9.out N9.out)
        replace P10 := Lib.hid (val_set P10.out v)
        clear c3
        refine hK _ _ (fun _ => HS.out _ C.out) ?_
        clear hK K
        try simp only [Act.put, List.setIfInBounds_toArray, List.set_cons_zero, List.set_cons_succ]
        refine lexF_done ?_
        clear v0 v1 v2 f10
        go_wp2_with fail
        go_meet
        exact ⟨b9, b10, i, k, v, rfl, rfl, rfl, Lib.hid (HM.out _ b9 b10 i k v (by have := G9.out; have := HZ.out; omega) (by have := G10.out; have := HZ.out; omega) N9.out P9.out P10.out HR.out C.out)⟩
      · intro K hK
        go_simp
        have P10 : Hid ((V6.alloc Val.null.obj).heap[V6.heap.size]? = some Val.null.obj) := Lib.hid hal_new
        have G10 : Hid (z0 ≤ V6.heap.size) := Lib.hid (by have := C.out.size; have := HZ.out; omega)
        have GN : Hid (b9 ≠ V6.heap.size) := Lib.hid (by have := lt_of_heap P9.out; omega)
        replace P9 : Hid ((V6.alloc Val.null.obj).heap[b9]? = some (.cells #[.int .i64 0] 3)) := Lib.hid ((hal_old (lt_of_heap P9.out)).trans P9.out)
        replace C : Hid (Chg NoB V0 (V6.alloc Val.null.obj)) := Lib.hid (C.out.alloc _)
        refine hK _ _ (fun _ => HS.out _ C.out) ?_
        clear hK K
        try simp only [Act.put, List.setIfInBounds_toArray, List.set_cons_zero, List.set_cons_succ]
        generalize hWW : V6.alloc _ = V9
        rw [show V6.alloc Val.null.obj = V9 from hWW] at P10 C P9
        generalize hbb : V6.heap.size = b10 at P10 G10 GN ⊢
        clear hWW hbb
        refine lexF_one rfl rfl ?_
        intro K hK
        go_simp
        refine (HQ.out _ (XV.out.trans C.out (fun _ h => h.elim))).mono ?_
        intro e V10 ho
        obtain ⟨i, k, v, rfl, hr, c2⟩ := ho.form
        have HR := Lib.hid hr
        replace C := Lib.hid (C.out.trans c2 (fun _ h => h.elim))
        replace P9 := Lib.hid (c2.heap P9.out (fun h => h))
        replace P10 := Lib.hid (c2.heap P10.out (fun h => h))
        clear ho hr c2
        refine hK _ _ (fun _ => HS.out _ C.out) ?_
        clear hK K
        try simp only [Act.put, List.setIfInBounds_toArray, List.set_cons_zero, List.set_cons_succ]
        iterate 4
          refine' lexF_free (v := _) rfl rfl ?_ (fun _ _ _ h => h) ?_
          rotate_left
          · rintro W ⟨h1, h2, h3, h4, h5, h6, h7, h8, h9, h10⟩
            go_simp
            with_reducible rfl
          try simp only [Act.put, List.setIfInBounds_toArray, List.set_cons_zero, List.set_cons_succ]
        obtain ⟨v0, v1, v2⟩ := val_cells (V := Val.null) P10.out
        have i0 : V10.cell? ⟨b9, 0, none⟩ = some (.int .i64 0) := cell_of_row V10 _ 0 _ _ _ P9.out
        have f9 : ∀ o, V10.frozen? ⟨b9, o, none⟩ = false := fun o => frozen_of_row V10 _ o _ _ P9.out
        refine lexF_one rfl rfl ?_
        intro K hK
        go_simp
        have N9 : Hid (b9 ≠ b10) := Lib.hid (by have := GN.out; omega)
        replace C : Hid (Chg NoB V0 (V10.setCell ⟨b9, 0, none⟩ (.int .i64 i))) := Lib.hid (C.out.setCell (p := ⟨b9, 0, none⟩) (.inr (by have := G9.out; have := HZ.out; show _ ≤ b9; omega)) _)
        replace P10 : Hid ((V10.setCell ⟨b9, 0, none⟩ (.int .i64 i)).heap[b10]? = some Val.null.obj) := Lib.hid ((hset_ne N9.out.symm).trans P10.out)
        replace P9 : Hid ((V10.setCell ⟨b9, 0, none⟩ (.int .i64 i)).heap[b9]? = some (.cells #[.int .i64 i] 3 (0, 0))) := Lib.hid (hset_eq (i := 0) (v := .int .i64 i) P9.out)
        refine hK _ _ (fun _ => HS.out _ C.out) ?_
        clear hK K
        try simp only [Act.put, List.setIfInBounds_toArray, List.set_cons_zero, List.set_cons_succ]
        generalize hWW : V10.setCell _ _ = U1
        rw [show V10.setCell ⟨b9, 0, none⟩ (.int .i64 i) = U1 from hWW] at C P9 P10
        clear hWW v0 v1 v2 i0 f9
        iterate 1
          refine' lexF_free (v := _) rfl rfl ?_ (fun _ _ _ h => h) ?_
          rotate_left
          · rintro W ⟨h1, h2, h3, h4, h5, h6, h7, h8, h9, h10⟩
            go_simp
            with_reducible rfl
          try simp only [Act.put, List.setIfInBounds_toArray, List.set_cons_zero, List.set_cons_succ]
        obtain ⟨v0, v1, v2⟩ := val_cells (V := Val.null) P10.out
        have f10 : ∀ o, U1.frozen? ⟨b10, o, none⟩ = false := fun o => frozen_of_row U1 _ o _ _ P10.out
        refine lexF_one rfl rfl ?_
        intro K hK
        go_simp
        have c3 := chg_set3 (w := U1) (b := b10) (.int .i64 v.kind) (.int .i64 v.num) (sv v.str)
        replace C := Lib.hid (C.out.trans c3 (fun q e => .inr (by unfold OneP at e; have := G10.out; have := HZ.out; omega)))
        replace P9 := Lib.hid (c3.heap P9.out N9.out)
        replace P10 := Lib.hid (val_set P10.out v)
        clear c3
        refine hK _ _ (fun _ => HS.out _ C.out) ?_
        clear hK K
        try simp only [Act.put, List.setIfInBounds_toArray, List.set_cons_zero, List.set_cons_succ]
        refine lexF_done ?_
        clear v0 v1 v2 f10
        go_wp2_with fail
        go_meet
        exact ⟨b9, b10, i, k, v, rfl, rfl, rfl, Lib.hid (HM.out _ b9 b10 i k v (by have := G9.out; have := HZ.out; omega) (by have := G10.out; have := HZ.out; omega) N9.out P9.out P10.out HR.out C.out)⟩
    · intro K hK
      go_simp
      have P10 : Hid ((V0.alloc Val.null.obj).heap[V0.heap.size]? = some Val.null.obj) := Lib.hid hal_new
      have G10 : Hid (z0 ≤ V0.heap.size) := Lib.hid (by have := C.out.size; have := HZ.out; omega)
      replace C : Hid (Chg NoB V0 (V0.alloc Val.null.obj)) := Lib.hid (C.out.alloc _)
      refine hK _ _ (fun _ => HS.out _ C.out) ?_
      clear hK K
      try simp only [Act.put, List.setIfInBounds_toArray, List.set_cons_zero, List.set_cons_succ]
      generalize hWW : V0.alloc _ = V11
      rw [show V0.alloc Val.null.obj = V11 from hWW] at P10 C
      generalize hbb : V0.heap.size = b10 at P10 G10 ⊢
      clear hWW hbb
      refine lexF_fork rfl rfl rfl rfl ?_ ?_
      · intro K hK
        go_simp
        refine (HQ.out _ (XV.out.trans C.out (fun _ h => h.elim))).mono ?_
        intro e V12 ho
        obtain ⟨i, k, v, rfl, hr, c2⟩ := ho.form
        have HR := Lib.hid hr
        replace C := Lib.hid (C.out.trans c2 (fun _ h => h.elim))
        replace P10 := Lib.hid (c2.heap P10.out (fun h => h))
        clear ho hr c2
        refine hK _ _ (fun _ => HS.out _ C.out) ?_
        clear hK K
        try simp only [Act.put, List.setIfInBounds_toArray, List.set_cons_zero, List.set_cons_succ]
        iterate 4
          refine' lexF_free (v := _) rfl rfl ?_ (fun _ _ _ h => h) ?_
          rotate_left
          · rintro W ⟨h1, h2, h3, h4, h5, h6, h7, h8, h9, h10⟩
            go_simp
            with_reducible rfl
          try simp only [Act.put, List.setIfInBounds_toArray, List.set_cons_zero, List.set_cons_succ]
        refine lexF_one rfl rfl ?_
        intro K hK
        go_simp
        have P9 : Hid ((V12.alloc (.cells #[.int .i64 0] 3)).heap[V12.heap.size]? = some (.cells #[.int .i64 0] 3)) := Lib.hid hal_new
        have G9 : Hid (z0 ≤ V12.heap.size) := Lib.hid (by have := C.out.size; have := HZ.out; omega)
        have GN : Hid (b10 ≠ V12.heap.size) := Lib.hid (by have := lt_of_heap P10.out; omega)
        replace P10 : Hid ((V12.alloc (.cells #[.int .i64 0] 3)).heap[b10]? = some Val.null.obj) := Lib.hid ((hal_old (lt_of_heap P10.out)).trans P10.out)
        replace C : Hid (Chg NoB V0 (V12.alloc (.cells #[.int .i64 0] 3))) := Lib.hid (C.out.alloc _)
        refine hK _ _ (fun _ => HS.out _ C.out) ?_
        clear hK K
        try simp only [Act.put, List.setIfInBounds_toArray, List.set_cons_zero, List.set_cons_succ]
        generalize hWW : V12.alloc _ = V13
        rw [show V12.alloc (.cells #[.int .i64 0] 3) = V13 from hWW] at P9 C P10
        generalize hbb : V12.heap.size = b9 at P9 G9 GN ⊢
        clear hWW hbb
        obtain ⟨v0, v1, v2⟩ := val_cells (V := Val.null) P10.out
        have i0 : V13.cell? ⟨b9, 0, none⟩ = some (.int .i64 0) := cell_of_row V13 _ 0 _ _ _ P9.out
        have f9 : ∀ o, V13.frozen? ⟨b9, o, none⟩ = false := fun o => frozen_of_row V13 _ o _ _ P9.out
        refine lexF_one rfl rfl ?_
        intro K hK
        go_simp
        have N9 : Hid (b9 ≠ b10) := Lib.hid (by have := GN.out; omega)
        replace C : Hid (Chg NoB V0 (V13.setCell ⟨b9, 0, none⟩ (.int .i64 i))) := Lib.hid (C.out.setCell (p := ⟨b9, 0, none⟩) (.inr (by have := G9.out; have := HZ.out; show _ ≤ b9; omega)) _)
        replace P10 : Hid ((V13.setCell ⟨b9, 0, none⟩ (.int .i64 i)).heap[b10]? = some Val.null.obj) := Lib.hid ((hset_ne N9.out.symm).trans P10.out)
        replace P9 : Hid ((V13.setCell ⟨b9, 0, none⟩ (.int .i64 i)).heap[b9]? = some (.cells #[.int .i64 i] 3 (0, 0))) := Lib.hid (hset_eq (i := 0) (v := .int .i64 i) P9.out)
        refine hK _ _ (fun _ => HS.out _ C.out) ?_
        clear hK K
        try simp only [Act.put, List.setIfInBounds_toArray, List.set_cons_zero, List.set_cons_succ]
        generalize hWW : V13.setCell _ _ = U1
        rw [show V13.setCell ⟨b9, 0, none⟩ (.int .i64 i) = U1 from hWW] at C P9 P10
        clear hWW v0 v1 v2 i0 f9
        iterate 1
          refine' lexF_free (v := _) rfl rfl ?_ (fun _ _ _ h => h) ?_
          rotate_left
          · rintro W ⟨h1, h2, h3, h4, h5, h6, h7, h8, h9, h10⟩
            go_simp
            with_reducible rfl
          try simp only [Act.put, List.setIfInBounds_toArray, List.set_cons_zero, List.set_cons_succ]
        obtain ⟨v0, v1, v2⟩ := val_cells (V := Val.null) P10.out
        have f10 : ∀ o, U1.frozen? ⟨b10, o, none⟩ = false := fun o => frozen_of_row U1 _ o _ _ P10.out
        refine lexF_one rfl rfl ?_
        intro K hK
        go_simp
        have c3 := chg_set3 (w := U1) (b := b10) (.int .i64 v.kind) (.int .i64 v.num) (sv v.str)
        replace C := Lib.hid (C.out.trans c3 (fun q e => .inr (by unfold OneP at e; have := G10.out; have := HZ.out; omega)))
        replace P9 := Lib.hid (c3.heap P9.out N9.out)
        replace P10 := Lib.hid (val_set P10.out v)
        clear c3
        refine hK _ _ (fun _ => HS.out _ C.out) ?_
        clear hK K
        try simp only [Act.put, List.setIfInBounds_toArray, List.set_cons_zero, List.set_cons_succ]
        refine lexF_done ?_
        clear v0 v1 v2 f10
        go_wp2_with fail
        go_meet
        exact ⟨b9, b10, i, k, v, rfl, rfl, rfl, Lib.hid (HM.out _ b9 b10 i k v (by have := G9.out; have := HZ.out; omega) (by have := G10.out; have := HZ.out; omega) N9.out P9.out P10.out HR.out C.out)⟩
      · intro K hK
        go_simp
        have P9 : Hid ((V11.alloc (.cells #[.int .i64 0] 3)).heap[V11.heap.size]? = some (.cells #[.int .i64 0] 3)) := Lib.hid hal_new
        have G9 : Hid (z0 ≤ V11.heap.size) := Lib.hid (by have := C.out.size; have := HZ.out; omega)
        have GN : Hid (b10 ≠ V11.heap.size) := Lib.hid (by have := lt_of_heap P10.out; omega)
        replace P10 : Hid ((V11.alloc (.cells #[.int .i64 0] 3)).heap[b10]? = some Val.null.obj) := Lib.hid ((hal_old (lt_of_heap P10.out)).trans P10.out)
        replace C : Hid (Chg NoB V0 (V11.alloc (.cells #[.int .i64 0] 3))) := Lib.hid (C.out.alloc _)
        refine hK _ _ (fun _ => HS.out _ C.out) ?_
        clear hK K
        try simp only [Act.put, List.setIfInBounds_toArray, List.set_cons_zero, List.set_cons_succ]
        generalize hWW : V11.alloc _ = V14
        rw [show V11.alloc (.cells #[.int .i64 0] 3) = V14 from hWW] at P9 C P10
        generalize hbb : V11.heap.size = b9 at P9 G9 GN ⊢
        clear hWW hbb
        refine lexF_one rfl rfl ?_
        intro K hK
        go_simp
        refine (HQ.out _ (XV.out.trans C.out (fun _ h => h.elim))).mono ?_
        intro e V15 ho
        obtain ⟨i, k, v, rfl, hr, c2⟩ := ho.form
        have HR := Lib.hid hr
        replace C := Lib.hid (C.out.trans c2 (fun _ h => h.elim))
        replace P9 := Lib.hid (c2.heap P9.out (fun h => h))
        replace P10 := Lib.hid (c2.heap P10.out (fun h => h))
        clear ho hr c2
        refine hK _ _ (fun _ => HS.out _ C.out) ?_
        clear hK K
        try simp only [Act.put, List.setIfInBounds_toArray, List.set_cons_zero, List.set_cons_succ]
        iterate 4
          refine' lexF_free (v := _) rfl rfl ?_ (fun _ _ _ h => h) ?_
          rotate_left
          · rintro W ⟨h1, h2, h3, h4, h5, h6, h7, h8, h9, h10⟩
            go_simp
            with_reducible rfl
          try simp only [Act.put, List.setIfInBounds_toArray, List.set_cons_zero, List.set_cons_succ]
        obtain ⟨v0, v1, v2⟩ := val_cells (V := Val.null) P10.out
        have i0 : V15.cell? ⟨b9, 0, none⟩ = some (.int .i64 0) := cell_of_row V15 _ 0 _ _ _ P9.out
        have f9 : ∀ o, V15.frozen? ⟨b9, o, none⟩ = false := fun o => frozen_of_row V15 _ o _ _ P9.out
        refine lexF_one rfl rfl ?_
        intro K hK
        go_simp
        have N9 : Hid (b9 ≠ b10) := Lib.hid (by have := GN.out; omega)
        replace C : Hid (Chg NoB V0 (V15.setCell ⟨b9, 0, none⟩ (.int .i64 i))) := Lib.hid (C.out.setCell (p := ⟨b9, 0, none⟩) (.inr (by have := G9.out; have := HZ.out; show _ ≤ b9; omega)) _)
        replace P10 : Hid ((V15.setCell ⟨b9, 0, none⟩ (.int .i64 i)).heap[b10]? = some Val.null.obj) := Lib.hid ((hset_ne N9.out.symm).trans P10.out)
        replace P9 : Hid ((V15.setCell ⟨b9, 0, none⟩ (.int .i64 i)).heap[b9]? = some (.cells #[.int .i64 i] 3 (0, 0))) := Lib.hid (hset_eq (i := 0) (v := .int .i64 i) P9.out)
        refine hK _ _ (fun _ => HS.out _ C.out) ?_
        clear hK K
        try simp only [Act.put, List.setIfInBounds_toArray, List.set_cons_zero, List.set_cons_succ]
        generalize hWW : V15.setCell _ _ = U1
        rw [show V15.setCell ⟨b9, 0, none⟩ (.int .i64 i) = U1 from hWW] at C P9 P10
        clear hWW v0 v1 v2 i0 f9
        iterate 1
          refine' lexF_free (v := _) rfl rfl ?_ (fun _ _ _ h => h) ?_
          rotate_left
          · rintro W ⟨h1, h2, h3, h4, h5, h6, h7, h8, h9, h10⟩
            go_simp
            with_reducible rfl
          try simp only [Act.put, List.setIfInBounds_toArray, List.set_cons_zero, List.set_cons_succ]
        obtain ⟨v0, v1, v2⟩ := val_cells (V := Val.null) P10.out
        have f10 : ∀ o, U1.frozen? ⟨b10, o, none⟩ = false := fun o => frozen_of_row U1 _ o _ _ P10.out
        refine lexF_one rfl rfl ?_
        intro K hK
        go_simp
        have c3 := chg_set3 (w := U1) (b := b10) (.int .i64 v.kind) (.int .i64 v.num) (sv v.str)
        replace C := Lib.hid (C.out.trans c3 (fun q e => .inr (by unfold OneP at e; have := G10.out; have := HZ.out; omega)))
        replace P9 := Lib.hid (c3.heap P9.out N9.out)
        replace P10 := Lib.hid (val_set P10.out v)
        clear c3
        refine hK _ _ (fun _ => HS.out _ C.out) ?_
        clear hK K
        try simp only [Act.put, List.setIfInBounds_toArray, List.set_cons_zero, List.set_cons_succ]
        refine lexF_done ?_
        clear v0 v1 v2 f10
        go_wp2_with fail
        go_meet
        exact ⟨b9, b10, i, k, v, rfl, rfl, rfl, Lib.hid (HM.out _ b9 b10 i k v (by have := G9.out; have := HZ.out; omega) (by have := G10.out; have := HZ.out; omega) N9.out P9.out P10.out HR.out C.out)⟩
  case rest =>
    obtain ⟨b9, b11, i, k, v, rfl, rfl, rfl, HM⟩ := hcut
    clear e0 e1 e2 e3 e4 e5 e6 e7
    have hmf : ∀ (fn : Fn) (first cap : Array Value) (w : World), (Instr.makeFunc fn first cap).run Tryz.prog w = .ok (.func fn first cap) w := fun _ _ _ _ => rfl
    have l9 := lt_of_heap HM.out.h9
    have l11 := lt_of_heap HM.out.h11
    have lt := lt_of_heap HM.out.tab
    have la := lt_of_heap HM.out.all
    have t0 : wc.cell? ⟨w.heap.size, 0, none⟩ = some (sv [116]) := cell_of_row wc _ 0 _ _ _ HM.out.tab
    have i0 : wc.cell? ⟨b9, 0, none⟩ = some (.int .i64 i) := cell_of_row wc _ 0 _ _ _ HM.out.h9
    go_wp2_with fail
    go_region
    have c6 : Chg NoB wc ((wc.alloc (RdF.obj ⟨i, Val.null, Val.null⟩)).drew) := ((Chg.refl NoB wc).alloc _).drew
    have X6 := Lib.hid (HM.out.c.trans c6 (fun _ h => .inl h))
    have A6 := Lib.hid (c6.heap HM.out.all (fun h => h))
    have I6 := Lib.hid (c6.heap HM.out.ix (fun h => h))
    have R6 := Lib.hid (c6.heap HM.out.res (fun h => h))
    have N6 := Lib.hid (c6.heap HM.out.h9 (fun h => h))
    have V6 := Lib.hid (c6.heap HM.out.h11 (fun h => h))
    have D6 : Hid (((wc.alloc (RdF.obj ⟨i, Val.null, Val.null⟩)).drew).heap[wc.heap.size]? = some (RdF.obj ⟨i, Val.null, Val.null⟩)) := Lib.hid (show (World.alloc _ _).heap[wc.heap.size]? = _ from hal_new)
    generalize hW6 : World.drew _ = W6
    rw [show (wc.alloc (RdF.obj ⟨i, Val.null, Val.null⟩)).drew = W6 from hW6] at X6 A6 I6 R6 N6 V6 D6
    have n9 := HM.out.n9
    have n11 := HM.out.n11
    obtain ⟨rb, hrb⟩ : ∃ rb, wc.heap.size = rb := ⟨_, rfl⟩
    rw [hrb] at D6 l9 l11 lt la ⊢
    have HQ' := Lib.hid HM.out.q
    clear hW6 c6 HM t0 i0 hrb
    by_cases hk0 : k = 0
    · subst hk0
      obtain ⟨a0, a1, a2, a3, a4, a5, a6, a7⟩ := RdCells.of A6.out
      obtain ⟨r0, r1, r2, r3, r4, r5, r6, r7⟩ : W6.cell? ⟨w.heap.size + 1 + 1, 0, none⟩ = some (sv []) ∧ W6.cell? ⟨w.heap.size + 1 + 1, 1, none⟩ = some (.int .i64 0) ∧ W6.cell? ⟨w.heap.size + 1 + 1, 2, none⟩ = some (.int .i64 0) ∧ W6.cell? ⟨w.heap.size + 1 + 1, 3, none⟩ = some (.int .i64 0) ∧ W6.cell? ⟨w.heap.size + 1 + 1, 4, none⟩ = some (sv []) ∧ W6.cell? ⟨w.heap.size + 1 + 1, 5, none⟩ = some (.int .i64 0) ∧ W6.cell? ⟨w.heap.size + 1 + 1, 6, none⟩ = some (.int .i64 0) ∧ W6.cell? ⟨w.heap.size + 1 + 1, 7, none⟩ = some (sv []) := ⟨cell_of_row W6 _ 0 _ _ _ R6.out, cell_of_row W6 _ 1 _ _ _ R6.out, cell_of_row W6 _ 2 _ _ _ R6.out, cell_of_row W6 _ 3 _ _ _ R6.out, cell_of_row W6 _ 4 _ _ _ R6.out, cell_of_row W6 _ 5 _ _ _ R6.out, cell_of_row W6 _ 6 _ _ _ R6.out, cell_of_row W6 _ 7 _ _ _ R6.out⟩
      have fz : ∀ o, W6.frozen? ⟨w.heap.size + 1 + 1, o, none⟩ = false := fun o => frozen_of_row W6 _ o _ _ R6.out
      go_wp2_with fail
      exact rd_ret RdF.all rfl rfl R6.out (fun w' c => ⟨X6.out.trans c (fun q e => .inr (by unfold OneP at e; omega)), _, _, rfl, .inl rfl⟩)
    · obtain ⟨n, hqn, rfl⟩ : ∃ n : Nat, questL cs y = some (n, k, v) ∧ i = n := by
        rcases HQ'.out with ⟨_, _, h, _⟩ | h
        · exact absurd h hk0
        · exact h
      have hkt := quest_turn cs y n k v hqn
      have hk5 : k = 10 ∨ k = 12 ∨ k = 13 ∨ k = 14 ∨ k = 15 := by unfold turnL at hkt; omega
      have HQN := Lib.hid hqn
      have K6 : Hid (CR w n v b9 b11 rb (.slice ao l.length cap) ⟨n, Val.null, Val.null⟩ W6) := Lib.hid ⟨n9, n11, l9, l11, X6.out, I6.out, R6.out, A6.out, N6.out, V6.out, D6.out⟩
      have HFind : Hid (∀ (f : Nat) (hf : MayF f) (r : RdF) (W : World), CR w n v b9 b11 rb (.slice ao l.length cap) r W → Calls Tryz.prog 20 #[.func (.func f) #[] #[], .pointer (some ⟨w.heap.size + 1, 0, none⟩), .pointer (some ⟨b9, 0, none⟩)] W (IntOut W)) := Lib.hid fun f hf r W h =>
        choose1_any f hf l H ao cap hl n (w.heap.size + 1) b9 W (RowAt.quiet HI.out h.c) (cell_of_row W _ 0 _ _ _ h.ix) (cell_of_row W _ 0 _ _ _ h.h9)
      clear HQ' hqn hkt hk0 X6 I6 R6 A6 N6 V6 D6
      obtain ⟨v0, v1, v2⟩ := val_cells K6.out.h11
      obtain ⟨_, _, d2, d3, d4, d5, d6, d7⟩ := RdCells.of K6.out.hr
      have fd : ∀ o, W6.frozen? ⟨rb, o, none⟩ = false := fun o => frozen_of_row W6 _ o _ _ K6.out.hr
      have m1 : ¬ b11 = rb := by omega
      have m2 : ¬ rb = b11 := by omega
      rcases hk5 with rfl | hk4
      · go_wp2_with fail
        go_region
        have c7 : Chg (OneP rb) W6 ((((((W6.setCell ⟨rb, 2, none⟩ (.int .i64 v.kind)).setCell ⟨rb, 3, none⟩ (.int .i64 v.num)).setCell ⟨rb, 4, none⟩ (sv v.str)).setCell ⟨rb, 5, none⟩ (.int .i64 v.kind)).setCell ⟨rb, 6, none⟩ (.int .i64 v.num)).setCell ⟨rb, 7, none⟩ (sv v.str)).drew :=
          ((chg_setI3 (w := W6) (b := rb) (.int .i64 v.kind) (.int .i64 v.num) (sv v.str)).trans (chg_setI3 _ _ _) (fun _ h => .inl h)).drew
        have K7 := Lib.hid (K6.out.step c7 (r' := ⟨n, v, v⟩) (rd_hi (rd_lo K6.out.hr v) v))
        generalize hW7 : World.drew _ = W7
        rw [show ((((((W6.setCell ⟨rb, 2, none⟩ (.int .i64 v.kind)).setCell ⟨rb, 3, none⟩ (.int .i64 v.num)).setCell ⟨rb, 4, none⟩ (sv v.str)).setCell ⟨rb, 5, none⟩ (.int .i64 v.kind)).setCell ⟨rb, 6, none⟩ (.int .i64 v.num)).setCell ⟨rb, 7, none⟩ (sv v.str)).drew = W7 from hW7] at K7
        clear hW7 c7 v0 v1 v2 d2 d3 d4 d5 d6 d7 fd m1 m2
        go_wp2_with fail
        refine (HFind.out 23 may2 _ W7 K7.out).mono ?_
        rintro e w8 ⟨n1, rfl, cw8⟩
        have K8 := Lib.hid (K7.out.quiet cw8)
        clear cw8
        by_cases hn0 : n1 < 0
        · have hd : decide (n1 < 0) = true := by simpa using hn0
          go_wp2_with fail
          refine (HFind.out 24 may3 _ w8 K8.out).mono ?_
          rintro e w9 ⟨n2, rfl, cw9⟩
          have K9 := Lib.hid (K8.out.quiet cw9)
          clear cw9
          clear hn0 hd
          by_cases hn0 : n2 < 0
          · have hd : decide (n2 < 0) = true := by simpa using hn0
            have X9 := Lib.hid K9.out.c
            have R9 := Lib.hid K9.out.res
            obtain ⟨r0, r1, r2, r3, r4, r5, r6, r7⟩ := rd0_cells R9.out
            have fz : ∀ o, w9.frozen? ⟨w.heap.size + 1 + 1, o, none⟩ = false := fun o => frozen_of_row w9 _ o _ _ R9.out
            obtain ⟨a0, a1, a2, a3, a4, a5, a6, a7⟩ := RdCells.of K9.out.all
            go_wp2_with fail
            exact rd_ret RdF.all rfl rfl R9.out (fun w' c => ⟨X9.out.trans c (fun q e => .inr (by unfold OneP at e; omega)), _, _, rfl, .inl rfl⟩)
          · have hd : decide (n2 < 0) = false := by simpa using hn0
            have X9 := Lib.hid K9.out.c
            have R9 := Lib.hid K9.out.res
            obtain ⟨r0, r1, r2, r3, r4, r5, r6, r7⟩ := rd0_cells R9.out
            have fz : ∀ o, w9.frozen? ⟨w.heap.size + 1 + 1, o, none⟩ = false := fun o => frozen_of_row w9 _ o _ _ R9.out
            obtain ⟨a0, a1, a2, a3, a4, a5, a6, a7⟩ := RdCells.of K9.out.hr
            go_wp2_with fail
            exact rd_ret ⟨n, v, v⟩ rfl rfl R9.out (fun w' c => ⟨X9.out.trans c (fun q e => .inr (by unfold OneP at e; omega)), _, _, rfl, .inr ⟨n, _, v, HQN.out, rfl⟩⟩)
        · have hd : decide (n1 < 0) = false := by simpa using hn0
          have X9 := Lib.hid K8.out.c
          have R9 := Lib.hid K8.out.res
          obtain ⟨r0, r1, r2, r3, r4, r5, r6, r7⟩ := rd0_cells R9.out
          have fz : ∀ o, w8.frozen? ⟨w.heap.size + 1 + 1, o, none⟩ = false := fun o => frozen_of_row w8 _ o _ _ R9.out
          obtain ⟨a0, a1, a2, a3, a4, a5, a6, a7⟩ := RdCells.of K8.out.hr
          go_wp2_with fail
          exact rd_ret ⟨n, v, v⟩ rfl rfl R9.out (fun w' c => ⟨X9.out.trans c (fun q e => .inr (by unfold OneP at e; omega)), _, _, rfl, .inr ⟨n, _, v, HQN.out, rfl⟩⟩)
      · have c7 : Chg (OneP rb) W6 (((W6.setCell ⟨rb, 5, none⟩ (.int .i64 v.kind)).setCell ⟨rb, 6, none⟩ (.int .i64 v.num)).setCell ⟨rb, 7, none⟩ (sv v.str)) := chg_setI3 (w := W6) (b := rb) (.int .i64 v.kind) (.int .i64 v.num) (sv v.str)
        have K7 := Lib.hid (K6.out.step c7 (r' := ⟨n, Val.null, v⟩) (rd_hi K6.out.hr v))
        clear c7
        rcases hk4 with rfl | rfl | rfl | rfl
        iterate 2
          · have HF7 := Lib.hid (HFind.out 26 may4 _ _ K7.out)
            go_wp2_with fail
            refine HF7.out.mono ?_
            rintro e w8 ⟨n1, rfl, c8⟩
            have K8 := Lib.hid (K7.out.quiet c8)
            clear c8 v0 v1 v2 d2 d3 d4 d5 d6 d7 fd m1 m2
            by_cases hn0 : n1 < 0
            · have hd : decide (n1 < 0) = true := by simpa using hn0
              have X9 := Lib.hid K8.out.c
              have R9 := Lib.hid K8.out.res
              obtain ⟨r0, r1, r2, r3, r4, r5, r6, r7⟩ := rd0_cells R9.out
              have fz : ∀ o, w8.frozen? ⟨w.heap.size + 1 + 1, o, none⟩ = false := fun o => frozen_of_row w8 _ o _ _ R9.out
              obtain ⟨a0, a1, a2, a3, a4, a5, a6, a7⟩ := RdCells.of K8.out.all
              go_wp2_with fail
              exact rd_ret RdF.all rfl rfl R9.out (fun w' c => ⟨X9.out.trans c (fun q e => .inr (by unfold OneP at e; omega)), _, _, rfl, .inl rfl⟩)
            · have hd : decide (n1 < 0) = false := by simpa using hn0
              have X9 := Lib.hid K8.out.c
              have R9 := Lib.hid K8.out.res
              obtain ⟨r0, r1, r2, r3, r4, r5, r6, r7⟩ := rd0_cells R9.out
              have fz : ∀ o, w8.frozen? ⟨w.heap.size + 1 + 1, o, none⟩ = false := fun o => frozen_of_row w8 _ o _ _ R9.out
              obtain ⟨a0, a1, a2, a3, a4, a5, a6, a7⟩ := RdCells.of K8.out.hr
              go_wp2_with fail
              exact rd_ret ⟨n, Val.null, v⟩ rfl rfl R9.out (fun w' c => ⟨X9.out.trans c (fun q e => .inr (by unfold OneP at e; omega)), _, _, rfl, .inr ⟨n, _, v, HQN.out, rfl⟩⟩)
        all_goals
          go_wp2_with fail
          generalize hW7 : World.setCell _ _ _ = W7
          rw [show (((W6.setCell ⟨rb, 5, none⟩ (.int .i64 v.kind)).setCell ⟨rb, 6, none⟩ (.int .i64 v.num)).setCell ⟨rb, 7, none⟩ (sv v.str)) = W7 from hW7] at K7
          clear hW7 v0 v1 v2 d2 d3 d4 d5 d6 d7 fd
          have HS : Hid (∀ V, Chg NoB W7 V → V.cell? ⟨b11, 0, none⟩ = some (.int .i64 v.kind) ∧ V.cell? ⟨b11, 1, none⟩ = some (.int .i64 v.num) ∧ V.cell? ⟨b11, 2, none⟩ = some (sv v.str)) := Lib.hid fun V cV => val_cells (cV.heap K7.out.h11 (fun h => h))
          refine wp_region_lex (fun V => V.cell? ⟨b11, 0, none⟩ = some (.int .i64 v.kind) ∧ V.cell? ⟨b11, 1, none⟩ = some (.int .i64 v.num) ∧ V.cell? ⟨b11, 2, none⟩ = some (sv v.str)) 99 [3, 5, 7] [0, 1, 2, 4, 3, 5, 6, 7] (by kernel_rfl) (by kernel_rfl) (HS.out _ (Chg.refl _ _).drew) ?_
          iterate 4
            refine' lex_free (v := _) rfl rfl rfl ?_ (fun _ _ _ h => h) ?_
            rotate_left
            · rintro W ⟨h1, h2, h3⟩
              go_simp
              with_reducible rfl
            try simp only [Act.put, List.setIfInBounds_toArray, List.set_cons_zero, List.set_cons_succ]
          refine lex_op rfl rfl rfl (fun K hK => ?_)
          go_simp
          refine (greatest_any v.kind _).mono ?_
          rintro e w8 ⟨rfl, c8⟩
          have C8 := Lib.hid ((Chg.refl NoB W7).drew.trans c8 (fun _ h => h.elim))
          have K8 := Lib.hid (K7.out.quiet C8.out)
          clear c8
          refine hK _ _ (fun _ => HS.out _ C8.out) ?_
          clear hK K
          try simp only [Act.put, List.setIfInBounds_toArray, List.set_cons_zero, List.set_cons_succ]
          obtain ⟨_, _, d2, d3, d4, d5, d6, d7⟩ := RdCells.of K8.out.hr
          have fd : ∀ o, w8.frozen? ⟨rb, o, none⟩ = false := fun o => frozen_of_row w8 _ o _ _ K8.out.hr
          have c5 := chg_setI3 (w := w8) (b := rb) (i := 2) (j := 3) (k := 4) (.int .i64 v.kind) (.int .i64 v.num) (sv v.str)
          have c9 := c5.trans (chg_setI3 (i := 5) (j := 6) (k := 7) (.int .i64 (greatL v.kind).kind) (.int .i64 (greatL v.kind).num) (sv (greatL v.kind).str)) (fun _ h => .inl h)
          have S5 := Lib.hid (val_cells (c5.heap K8.out.h11 m1))
          have S9 := Lib.hid (val_cells (c9.heap K8.out.h11 m1))
          have K9 := Lib.hid (K8.out.step c9 (r' := ⟨n, v, greatL v.kind⟩) (rd_hi (rd_lo K8.out.hr v) (greatL v.kind)))
          clear c5 c9
          refine lex_op rfl rfl rfl (fun K hK => ?_)
          go_simp
          refine hK _ _ (fun _ => S5.out) ?_
          clear hK K
          try simp only [Act.put, List.setIfInBounds_toArray, List.set_cons_zero, List.set_cons_succ]
          iterate 1
            refine' lex_free (v := _) rfl rfl rfl ?_ (fun _ _ _ h => h) ?_
            rotate_left
            · rintro W ⟨h1, h2, h3⟩
              go_simp
              with_reducible rfl
            try simp only [Act.put, List.setIfInBounds_toArray, List.set_cons_zero, List.set_cons_succ]
          refine lex_op rfl rfl rfl (fun K hK => ?_)
          go_simp
          refine hK _ _ (fun _ => S9.out) ?_
          clear hK K
          try simp only [Act.put, List.setIfInBounds_toArray, List.set_cons_zero, List.set_cons_succ]
          refine lex_nil ?_
          generalize hW9 : World.setCell _ _ _ = W9
          rw [show ((((((w8.setCell ⟨rb, 2, none⟩ (.int .i64 v.kind)).setCell ⟨rb, 3, none⟩ (.int .i64 v.num)).setCell ⟨rb, 4, none⟩ (sv v.str)).setCell ⟨rb, 5, none⟩ (.int .i64 (greatL v.kind).kind)).setCell ⟨rb, 6, none⟩ (.int .i64 (greatL v.kind).num)).setCell ⟨rb, 7, none⟩ (sv (greatL v.kind).str)) = W9 from hW9] at K9
          clear hW9 d2 d3 d4 d5 d6 d7 fd S5 S9 m1 m2
          go_wp2_with fail
          refine (HFind.out 26 may4 _ W9 K9.out).mono ?_
          rintro e w10 ⟨n1, rfl, cw10⟩
          have K10 := Lib.hid (K9.out.quiet cw10)
          clear cw10
          by_cases hn0 : n1 < 0
          · have hd : decide (n1 < 0) = true := by simpa using hn0
            have X9 := Lib.hid K10.out.c
            have R9 := Lib.hid K10.out.res
            obtain ⟨r0, r1, r2, r3, r4, r5, r6, r7⟩ := rd0_cells R9.out
            have fz : ∀ o, w10.frozen? ⟨w.heap.size + 1 + 1, o, none⟩ = false := fun o => frozen_of_row w10 _ o _ _ R9.out
            obtain ⟨a0, a1, a2, a3, a4, a5, a6, a7⟩ := RdCells.of K10.out.all
            go_wp2_with fail
            exact rd_ret RdF.all rfl rfl R9.out (fun w' c => ⟨X9.out.trans c (fun q e => .inr (by unfold OneP at e; omega)), _, _, rfl, .inl rfl⟩)
          · have hd : decide (n1 < 0) = false := by simpa using hn0
            have X9 := Lib.hid K10.out.c
            have R9 := Lib.hid K10.out.res
            obtain ⟨r0, r1, r2, r3, r4, r5, r6, r7⟩ := rd0_cells R9.out
            have fz : ∀ o, w10.frozen? ⟨w.heap.size + 1 + 1, o, none⟩ = false := fun o => frozen_of_row w10 _ o _ _ R9.out
            obtain ⟨a0, a1, a2, a3, a4, a5, a6, a7⟩ := RdCells.of K10.out.hr
            go_wp2_with fail
            exact rd_ret ⟨n, v, greatL v.kind⟩ rfl rfl R9.out (fun w' c => ⟨X9.out.trans c (fun q e => .inr (by unfold OneP at e; omega)), _, _, rfl, .inr ⟨n, _, v, HQN.out, rfl⟩⟩)
end Go.Proofs.YtnbckfkdmkbopaaGreatDoor
