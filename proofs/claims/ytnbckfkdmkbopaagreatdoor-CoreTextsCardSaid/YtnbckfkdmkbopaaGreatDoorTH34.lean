/-
  Parse, at a text that begins with DELETE FROM t WHERE. No condition beyond each lemma's own.
-/
import Derived.Test.YtnbckfkdmkbopaaGreatDoorTH33
set_option autoImplicit false
namespace Go.Proofs.YtnbckfkdmkbopaaGreatDoor
open Go Go.RowKit

def PaOut (r : Option Ex) (w : World) (e : Ending) (w' : World) : Prop :=
  Chg NoB w w' ∧ match r with
  | none => ∃ q : Int, q ≠ 0 ∧ e = .returned (.tuple #[.agg zeroSt.toArray, .int .i64 q])
  | some x => ∃ v, e = .returned (.tuple #[delVal v, .int .i64 0]) ∧ OneEx w' (fun k => w.heap.size ≤ k) v x
theorem PaOut.no {r : Option Ex} {w w' : World} {q : Int} (hr : r = none) (h : Chg NoB w w') (hq : q ≠ 0) : PaOut r w (.returned (.tuple #[.agg zeroSt.toArray, .int .i64 q])) w' := by
  subst hr; exact ⟨h, q, hq, rfl⟩
theorem PaOut.yes {r : Option Ex} {w w' : World} {x : Ex} {v : Value} (hr : r = some x) (h : Chg NoB w w') (hx : OneEx w' (fun k => w.heap.size ≤ k) v x) : PaOut r w (.returned (.tuple #[delVal v, .int .i64 0])) w' := by
  subst hr; exact ⟨h, v, rfl, hx⟩
theorem results_st {fn : Func} (h : fn.results = #[.cell 2 61, .cell 3 44]) (tmps : Array Value) (w : World) (s q : Nat) (cs : List Value) (v : Value) (hl : cs.length = 14)
    (hp : tmps.getD 2 undef = .pointer (some ⟨s, 0, none⟩)) (hp2 : tmps.getD 3 undef = .pointer (some ⟨q, 0, none⟩)) (hs : w.rangeAt s 0 cs) (hq : w.cell? ⟨q, 0, none⟩ = some v) :
    (results fn tmps).run Tryz.prog w = .ok (.tuple #[.agg cs.toArray, v]) w := by
  have hp' : tmps[2]?.getD undef = .pointer (some ⟨s, 0, none⟩) := by simpa using hp
  have hp2' : tmps[3]?.getD undef = .pointer (some ⟨q, 0, none⟩) := by simpa using hp2
  have h1 := run_loadVar_mid (P := Tryz.prog) w s 0 61 cs _ hs Tryz.underlying61 rfl (by rw [hl]; kernel_rfl)
  have h2 : (loadVar 44 ⟨q, 0, none⟩).run Tryz.prog w = .ok v w := by simp [go_sem, loadVar, hq]
  simp [results, h, hp', hp2', asAddr, h1, h2]
theorem st_two (w : World) (b q : Nat) (c0 c1 c2 c3 c4 c5 c6 c7 c8 c9 c10 c11 c12 c13 v x : Value) (old : Array Value) (ho : old.size = 14) (hb : w.heap[b]? = some (.cells old 61 (0, 0))) (hq : w.heap[q]? = some (.cells #[x] 44 (0, 0))) (hne : b ≠ q) :
    Chg (fun k => k = b ∨ k = q) w (((((((((((((((w.setCell ⟨b, 0, none⟩ c0).setCell ⟨b, 1, none⟩ c1).setCell ⟨b, 2, none⟩ c2).setCell ⟨b, 3, none⟩ c3).setCell ⟨b, 4, none⟩ c4).setCell ⟨b, 5, none⟩ c5).setCell ⟨b, 6, none⟩ c6).setCell ⟨b, 7, none⟩ c7).setCell ⟨b, 8, none⟩ c8).setCell ⟨b, 9, none⟩ c9).setCell ⟨b, 10, none⟩ c10).setCell ⟨b, 11, none⟩ c11).setCell ⟨b, 12, none⟩ c12).setCell ⟨b, 13, none⟩ c13).setCell ⟨q, 0, none⟩ v) ∧ (((((((((((((((w.setCell ⟨b, 0, none⟩ c0).setCell ⟨b, 1, none⟩ c1).setCell ⟨b, 2, none⟩ c2).setCell ⟨b, 3, none⟩ c3).setCell ⟨b, 4, none⟩ c4).setCell ⟨b, 5, none⟩ c5).setCell ⟨b, 6, none⟩ c6).setCell ⟨b, 7, none⟩ c7).setCell ⟨b, 8, none⟩ c8).setCell ⟨b, 9, none⟩ c9).setCell ⟨b, 10, none⟩ c10).setCell ⟨b, 11, none⟩ c11).setCell ⟨b, 12, none⟩ c12).setCell ⟨b, 13, none⟩ c13).setCell ⟨q, 0, none⟩ v).heap[b]? = some (.cells #[c0, c1, c2, c3, c4, c5, c6, c7, c8, c9, c10, c11, c12, c13] 61 (0, 0)) ∧ (((((((((((((((w.setCell ⟨b, 0, none⟩ c0).setCell ⟨b, 1, none⟩ c1).setCell ⟨b, 2, none⟩ c2).setCell ⟨b, 3, none⟩ c3).setCell ⟨b, 4, none⟩ c4).setCell ⟨b, 5, none⟩ c5).setCell ⟨b, 6, none⟩ c6).setCell ⟨b, 7, none⟩ c7).setCell ⟨b, 8, none⟩ c8).setCell ⟨b, 9, none⟩ c9).setCell ⟨b, 10, none⟩ c10).setCell ⟨b, 11, none⟩ c11).setCell ⟨b, 12, none⟩ c12).setCell ⟨b, 13, none⟩ c13).setCell ⟨q, 0, none⟩ v).heap[q]? = some (.cells #[v] 44 (0, 0)) := by
  have h1 := set14_heap w b old 61 c0 c1 c2 c3 c4 c5 c6 c7 c8 c9 c10 c11 c12 c13 ho hb
  have c1 := chg_set14 w b c0 c1 c2 c3 c4 c5 c6 c7 c8 c9 c10 c11 c12 c13
  have h2 := c1.heap hq (fun e => hne e.symm)
  exact ⟨(c1.mono (fun k h => .inl (.inl h))).setCell (p := ⟨q, 0, none⟩) (.inl (Or.inr rfl)) v, (hset_ne hne).trans h1, hset_eq (i := 0) h2⟩
theorem stD_ret {fn : Func} {Q : Ending → World → Prop} {tmps : Array Value} {w : World} {b q : Nat} {v x : Value} (hres : fn.results = #[.cell 2 61, .cell 3 44]) (hp : tmps.getD 2 undef = .pointer (some ⟨b, 0, none⟩)) (hp2 : tmps.getD 3 undef = .pointer (some ⟨q, 0, none⟩))
    (hb : w.heap[b]? = some (.cells zeroSt.toArray 61 (0, 0))) (hq : w.heap[q]? = some (.cells #[x] 44 (0, 0))) (hne : b ≠ q) (hQ : ∀ w', Chg (fun k => k = b ∨ k = q) w w' → Q (.returned (.tuple #[.agg zeroSt.toArray, v])) w') :
    bodyPostD Tryz.prog fn Q Exit.ret ⟨tmps, []⟩ (((((((((((((((w.setCell ⟨b, 0, none⟩ (.int .i64 0)).setCell ⟨b, 1, none⟩ (sv [])).setCell ⟨b, 2, none⟩ (sv [])).setCell ⟨b, 3, none⟩ (.slice none 0 0)).setCell ⟨b, 4, none⟩ (.slice none 0 0)).setCell ⟨b, 5, none⟩ (.slice none 0 0)).setCell ⟨b, 6, none⟩ (.slice none 0 0)).setCell ⟨b, 7, none⟩ (.slice none 0 0)).setCell ⟨b, 8, none⟩ (.slice none 0 0)).setCell ⟨b, 9, none⟩ (.slice none 0 0)).setCell ⟨b, 10, none⟩ (.slice none 0 0)).setCell ⟨b, 11, none⟩ (.int .i64 0)).setCell ⟨b, 12, none⟩ (.slice none 0 0)).setCell ⟨b, 13, none⟩ (.bool false)).setCell ⟨q, 0, none⟩ v).drew := by
  obtain ⟨h1, h2, h3⟩ := st_two w b q (.int .i64 0) (sv []) (sv []) (.slice none 0 0) (.slice none 0 0) (.slice none 0 0) (.slice none 0 0) (.slice none 0 0) (.slice none 0 0) (.slice none 0 0) (.slice none 0 0) (.int .i64 0) (.slice none 0 0) (.bool false) v x _ rfl hb hq hne
  generalize ((((((((((((((w.setCell ⟨b, 0, none⟩ (.int .i64 0)).setCell ⟨b, 1, none⟩ (sv [])).setCell ⟨b, 2, none⟩ (sv [])).setCell ⟨b, 3, none⟩ (.slice none 0 0)).setCell ⟨b, 4, none⟩ (.slice none 0 0)).setCell ⟨b, 5, none⟩ (.slice none 0 0)).setCell ⟨b, 6, none⟩ (.slice none 0 0)).setCell ⟨b, 7, none⟩ (.slice none 0 0)).setCell ⟨b, 8, none⟩ (.slice none 0 0)).setCell ⟨b, 9, none⟩ (.slice none 0 0)).setCell ⟨b, 10, none⟩ (.slice none 0 0)).setCell ⟨b, 11, none⟩ (.int .i64 0)).setCell ⟨b, 12, none⟩ (.slice none 0 0)).setCell ⟨b, 13, none⟩ (.bool false)).setCell ⟨q, 0, none⟩ v = V at h1 h2 h3 ⊢
  have h2' : V.drew.heap[b]? = some (.cells zeroSt.toArray 61 (0, 0)) := h2
  have h3' : V.drew.heap[q]? = some (.cells #[v] 44 (0, 0)) := h3
  exact ⟨_, results_st hres _ _ b q zeroSt v rfl hp hp2 (range_block h2') (cell_of_row _ _ 0 _ _ _ h3'), hQ _ h1.drew⟩
theorem stD_leave {fn : Func} {Q : Ending → World → Prop} {tmps : Array Value} {w : World} {b q : Nat} {c0 c1 c2 c3 c4 c5 c6 c7 c8 c9 c10 c11 c12 c13 v x : Value} {old : Array Value} (hres : fn.results = #[.cell 2 61, .cell 3 44]) (hp : tmps.getD 2 undef = .pointer (some ⟨b, 0, none⟩)) (hp2 : tmps.getD 3 undef = .pointer (some ⟨q, 0, none⟩))
    (hb : w.heap[b]? = some (.cells old 61 (0, 0))) (ho : old.size = 14) (hq : w.heap[q]? = some (.cells #[x] 44 (0, 0))) (hne : b ≠ q) (hQ : ∀ w', Chg (fun k => k = b ∨ k = q) w w' → Q (.returned (.tuple #[.agg #[c0, c1, c2, c3, c4, c5, c6, c7, c8, c9, c10, c11, c12, c13], v])) w') :
    bodyPostD Tryz.prog fn Q Exit.ret ⟨tmps, [{ target := .fn (.func 37) #[.pointer (some ⟨b, 0, none⟩), .pointer (some ⟨q, 0, none⟩)], args := #[] }]⟩ (((((((((((((((w.setCell ⟨b, 0, none⟩ c0).setCell ⟨b, 1, none⟩ c1).setCell ⟨b, 2, none⟩ c2).setCell ⟨b, 3, none⟩ c3).setCell ⟨b, 4, none⟩ c4).setCell ⟨b, 5, none⟩ c5).setCell ⟨b, 6, none⟩ c6).setCell ⟨b, 7, none⟩ c7).setCell ⟨b, 8, none⟩ c8).setCell ⟨b, 9, none⟩ c9).setCell ⟨b, 10, none⟩ c10).setCell ⟨b, 11, none⟩ c11).setCell ⟨b, 12, none⟩ c12).setCell ⟨b, 13, none⟩ c13).setCell ⟨q, 0, none⟩ v) := by
  obtain ⟨h1, h2, h3⟩ := st_two w b q c0 c1 c2 c3 c4 c5 c6 c7 c8 c9 c10 c11 c12 c13 v x _ ho hb hq hne
  generalize ((((((((((((((w.setCell ⟨b, 0, none⟩ c0).setCell ⟨b, 1, none⟩ c1).setCell ⟨b, 2, none⟩ c2).setCell ⟨b, 3, none⟩ c3).setCell ⟨b, 4, none⟩ c4).setCell ⟨b, 5, none⟩ c5).setCell ⟨b, 6, none⟩ c6).setCell ⟨b, 7, none⟩ c7).setCell ⟨b, 8, none⟩ c8).setCell ⟨b, 9, none⟩ c9).setCell ⟨b, 10, none⟩ c10).setCell ⟨b, 11, none⟩ c11).setCell ⟨b, 12, none⟩ c12).setCell ⟨b, 13, none⟩ c13).setCell ⟨q, 0, none⟩ v = V at h1 h2 h3 ⊢
  refine leaves_cons (f := 37) (args := #[.pointer (some ⟨b, 0, none⟩), .pointer (some ⟨q, 0, none⟩)]) (by simp) (by simp [go_sem]) ?_
  refine (catch_idle b q V).mono ?_
  rintro e u' w' ⟨rfl, rfl, c⟩
  exact ⟨_, results_st hres _ _ b q [c0, c1, c2, c3, c4, c5, c6, c7, c8, c9, c10, c11, c12, c13] v rfl hp hp2 (range_block (c.heap h2 (fun h => h))) (cell_of_row _ _ 0 _ _ _ (c.heap h3 (fun h => h))), hQ _ (h1.trans c (fun k h => h.elim))⟩
theorem stD_fault {fn : Func} {Q : Ending → World → Prop} {tmps : Array Value} {w : World} {b q : Nat} {x : Int} {c0 c1 c2 c3 c4 c5 c6 c7 c8 c9 c10 c11 c12 c13 : Value} (hres : fn.results = #[.cell 2 61, .cell 3 44]) (hp : tmps.getD 2 undef = .pointer (some ⟨b, 0, none⟩)) (hp2 : tmps.getD 3 undef = .pointer (some ⟨q, 0, none⟩))
    (hb : w.heap[b]? = some (.cells #[c0, c1, c2, c3, c4, c5, c6, c7, c8, c9, c10, c11, c12, c13] 61 (0, 0))) (hq : w.heap[q]? = some (.cells #[.int .i64 x] 44 (0, 0))) (hne : b ≠ q) (hQ : ∀ w', Chg (fun k => k = b ∨ k = q) w w' → Q (.returned (.tuple #[.agg zeroSt.toArray, .int .i64 30])) w') :
    bodyPostD Tryz.prog fn Q (Exit.panic fault) ⟨tmps, [{ target := .fn (.func 37) #[.pointer (some ⟨b, 0, none⟩), .pointer (some ⟨q, 0, none⟩)], args := #[] }]⟩ w := by
  refine leaves_cons (f := 37) (args := #[.pointer (some ⟨b, 0, none⟩), .pointer (some ⟨q, 0, none⟩)]) (by simp) (by simp [go_sem]) ?_
  refine (catch_panicking b q [] w _ _ _ _ _ _ _ _ _ _ _ _ _ _ x hb hq hne).mono ?_
  rintro e u' w' ⟨rfl, rfl, c, h2, h3⟩
  exact ⟨_, results_st hres _ _ b q zeroSt _ rfl hp hp2 (range_block h2) (cell_of_row _ _ 0 _ _ _ h3), hQ _ c⟩
theorem toks_at {w : World} {F : Nat → Prop} {v : Value} {ts : List Tok} (h : ToksAt w F v ts) (hn : 0 < ts.length) : ∃ tb, tb < w.heap.size ∧ F tb ∧ ToksAt w (fun k => k = tb) v ts := by
  obtain ⟨ao, cap, rfl, h⟩ := h
  obtain ⟨b, o, rfl, hb, hf, hr⟩ := h hn
  exact ⟨b, hb, hf, _, _, rfl, fun _ => ⟨b, o, rfl, hb, rfl, hr⟩⟩
theorem psign_any {p tb : Nat} {ts : List Tok} {w : World} (h : PAt w p tb ts) : Calls Tryz.prog 39 #[.pointer (some ⟨p, 0, none⟩), sv [59]] w fun e w' => ∃ b r, e = .returned (.bool b) ∧ PAt w' p tb r ∧ Chg (OneP p) w w' ∧ endP ts = r.isEmpty := by
  obtain ⟨q, hq⟩ : ∃ q, nextT 5 [59] ts = q := ⟨_, rfl⟩
  rcases q with _ | r
  · refine (sign_no h hq).mono ?_
    rintro e w' ⟨rfl, rfl⟩
    exact ⟨_, ts, rfl, h, Chg.refl _ _, by unfold endP; rw [hq]⟩
  · refine (sign_yes h hq).mono ?_
    rintro e w' ⟨rfl, hh⟩
    exact ⟨_, r, rfl, hh.out.1, hh.out.2, by unfold endP; rw [hq]⟩
set_option maxRecDepth 100000 in
set_option maxHeartbeats 1000000 in
theorem parse_any (text : Str) (w : World) (hg : Glob w) (h10 : 10 ≤ w.heap.size) (hbl : (pre ++ text).length ≤ 9223372036854775807) : Calls Tryz.prog 16 #[sv (pre ++ text)] w (PaOut (readL text) w) := by
  have hmf : ∀ (fn : Fn) (first cap : Array Value) (w : World), (Instr.makeFunc fn first cap).run Tryz.prog w = .ok (.func fn first cap) w := fun _ _ _ _ => rfl
  have X0 : Chg NoB w ((w.alloc (.cells #[.int .i64 0, .string ⟨#[]⟩, .string ⟨#[]⟩, .slice none 0 0, .slice none 0 0, .slice none 0 0, .slice none 0 0, .slice none 0 0, .slice none 0 0, .slice none 0 0, .slice none 0 0, .int .i64 0, .slice none 0 0, .bool false] 61)).alloc (.cells #[.int .i64 0] 44)) := ((Chg.refl NoB w).alloc _).alloc _
  have G0 := Lib.hid (hg.quiet X0)
  have HX0 := Lib.hid X0
  have Z0 : Hid (((w.alloc (.cells #[.int .i64 0, .string ⟨#[]⟩, .string ⟨#[]⟩, .slice none 0 0, .slice none 0 0, .slice none 0 0, .slice none 0 0, .slice none 0 0, .slice none 0 0, .slice none 0 0, .slice none 0 0, .int .i64 0, .slice none 0 0, .bool false] 61)).alloc (.cells #[.int .i64 0] 44)).heap[w.heap.size]? = some (.cells zeroSt.toArray 61)) := Lib.hid ((hal_old (by simp)).trans hal_new)
  have E0 : Hid (((w.alloc (.cells #[.int .i64 0, .string ⟨#[]⟩, .string ⟨#[]⟩, .slice none 0 0, .slice none 0 0, .slice none 0 0, .slice none 0 0, .slice none 0 0, .slice none 0 0, .slice none 0 0, .slice none 0 0, .int .i64 0, .slice none 0 0, .bool false] 61)).alloc (.cells #[.int .i64 0] 44)).heap[w.heap.size + 1]? = some (.cells #[.int .i64 0] 44)) := Lib.hid (hal_new' (by simp))
  clear X0 hg
  generalize hL : pre ++ text = L at hbl ⊢
  have HL := Lib.hid hL
  clear hL
  go_enter_defers Tryz.func16, Tryz.ntmps16
  go_wp2_with fail
  refine (all_any L _ G0.out (by simp; omega) hbl).mono ?_
  rintro e w1 ⟨c1, ho⟩
  have X1 : Hid (Chg NoB w w1) := Lib.hid (HX0.out.trans c1 (fun _ h => h.elim))
  have Z1 : Hid (w1.heap[w.heap.size]? = some (.cells zeroSt.toArray 61)) := Lib.hid (c1.heap Z0.out (fun h => h))
  have E1 : Hid (w1.heap[w.heap.size + 1]? = some (.cells #[.int .i64 0] 44)) := Lib.hid (c1.heap E0.out (fun h => h))
  have G1 := Lib.hid (G0.out.quiet c1)
  clear c1
  have hzl := lt_of_heap E1.out
  obtain ⟨q, hq⟩ : ∃ q, lexS L = q := ⟨_, rfl⟩
  have HQ := Lib.hid hq
  rw [hq] at ho
  clear hq
  have e0 : w1.cell? ⟨w.heap.size + 1, 0, none⟩ = some (.int .i64 0) := cell_of_row w1 _ 0 _ _ _ E1.out
  have fe : ∀ o, w1.frozen? ⟨w.heap.size + 1, o, none⟩ = false := fun o => frozen_of_row w1 _ o _ _ E1.out
  rcases q with _ | ts
  · obtain ⟨er, her, rfl⟩ := ho
    have hnb : (er == 0) = false := by simpa using her
    go_wp2_with fail
    have X2 : Hid (Chg NoB w (w1.setCell ⟨w.heap.size + 1, 0, none⟩ (.int .i64 er))) := Lib.hid (X1.out.setCell (p := ⟨w.heap.size + 1, 0, none⟩) (.inr (by simp)) _)
    have E2 : Hid ((w1.setCell ⟨w.heap.size + 1, 0, none⟩ (.int .i64 er)).heap[w.heap.size + 1]? = some (.cells #[.int .i64 er] 44)) := Lib.hid (hset_eq (i := 0) E1.out)
    have Z2 : Hid ((w1.setCell ⟨w.heap.size + 1, 0, none⟩ (.int .i64 er)).heap[w.heap.size]? = some (.cells zeroSt.toArray 61)) := Lib.hid ((hset_ne (by omega)).trans Z1.out)
    generalize hW : w1.setCell ⟨w.heap.size + 1, 0, none⟩ (.int .i64 er) = W at X2 E2 Z2 ⊢
    clear hW e0 fe
    obtain ⟨z0, z1, z2, z3, z4, z5, z6, z7, z8, z9, z10, z11, z12, z13⟩ := cells14 Z2.out
    have fz : ∀ o, W.frozen? ⟨w.heap.size, o, none⟩ = false := fun o => frozen_of_row W _ o _ _ Z2.out
    have ee : W.cell? ⟨w.heap.size + 1, 0, none⟩ = some (.int .i64 er) := cell_of_row _ _ 0 _ _ _ E2.out
    have fe : ∀ o, W.frozen? ⟨w.heap.size + 1, o, none⟩ = false := fun o => frozen_of_row W _ o _ _ E2.out
    go_region
    go_wp2
    exact stD_ret rfl rfl rfl Z2.out E2.out (by omega) (fun w' c => PaOut.no (q := er) (by unfold readL; rw [HL.out, HQ.out]) (X2.out.trans c (fun k h => .inr (by omega))) her)
  · obtain ⟨ao, c, rfl, hc, ht, htl⟩ := ho
    obtain ⟨r, rfl⟩ := lexS_pre (text := text) (by rw [HL.out]; exact HQ.out)
    obtain ⟨n, hn⟩ : ∃ n, n = (T4 ++ r).length := ⟨_, rfl⟩
    rw [← hn] at hc htl ⊢
    have HT := Lib.hid ht
    have HN := Lib.hid hn
    clear ht hn
    obtain ⟨tb, htb, hF, hT⟩ := toks_at HT.out (by simp [T4])
    simp only [World.size_alloc] at hF
    have hs1 := X1.out.size
    have X2 : Hid (Chg NoB w ((w1.setCell ⟨w.heap.size + 1, 0, none⟩ (.int .i64 0)).alloc (.cells #[.slice ao n c] 101))) := Lib.hid ((X1.out.setCell (p := ⟨w.heap.size + 1, 0, none⟩) (.inr (by simp)) _).alloc _)
    have C2 : Hid (Chg (fun k => k = w.heap.size + 1) w1 ((w1.setCell ⟨w.heap.size + 1, 0, none⟩ (.int .i64 0)).alloc (.cells #[.slice ao n c] 101))) := Lib.hid (((Chg.refl (fun k => k = w.heap.size + 1) w1).setCell (p := ⟨w.heap.size + 1, 0, none⟩) (.inl rfl) _).alloc _)
    have E2 : Hid (((w1.setCell ⟨w.heap.size + 1, 0, none⟩ (.int .i64 0)).alloc (.cells #[.slice ao n c] 101)).heap[w.heap.size + 1]? = some (.cells #[.int .i64 0] 44)) := Lib.hid ((hal_old (by simpa using hzl)).trans (hset_eq (i := 0) E1.out))
    have Z2 : Hid (((w1.setCell ⟨w.heap.size + 1, 0, none⟩ (.int .i64 0)).alloc (.cells #[.slice ao n c] 101)).heap[w.heap.size]? = some (.cells zeroSt.toArray 61)) := Lib.hid (C2.out.heap Z1.out (by omega))
    have P2 : Hid (PAt ((w1.setCell ⟨w.heap.size + 1, 0, none⟩ (.int .i64 0)).alloc (.cells #[.slice ao n c] 101)) w1.heap.size tb (T4 ++ r)) := Lib.hid (by
      refine ⟨by simp; omega, by omega, ao, c, by rw [← HN.out]; exact hc, ?_, ?_⟩
      · rw [← HN.out]; exact hal_new' (by simp)
      · exact RowAt.chg hT C2.out (fun k hk e => by omega))
    have G2 := Lib.hid (G1.out.chg C2.out (fun k hk => by omega))
    have HR : Hid (readL text = match pFull r with
        | none => none
        | some (x, r2) => if endP r2 && decide (x.hgt ≤ 32) then some x else none) := Lib.hid (by unfold readL; rw [HL.out, HQ.out]; rfl)
    have hrl : r.length ≤ 2048 := by have := HN.out; simp [T4] at this; omega
    clear hT HT C2
    go_wp2_with fail
    refine (statement_yes w1.heap.size tb (by omega) 0 0 0 0 r _ P2.out G2.out).mono ?_
    rintro e w3 ⟨c3, ho⟩
    have X3 : Hid (Chg NoB w w3) := Lib.hid (X2.out.trans c3 (fun k h => .inr (by unfold OneP at h; omega)))
    have Z3 : Hid (w3.heap[w.heap.size]? = some (.cells zeroSt.toArray 61)) := Lib.hid (c3.heap Z2.out (by unfold OneP; omega))
    have E3 : Hid (w3.heap[w.heap.size + 1]? = some (.cells #[.int .i64 0] 44)) := Lib.hid (c3.heap E2.out (by unfold OneP; omega))
    clear c3
    obtain ⟨q, hq⟩ : ∃ q, pFull r = q := ⟨_, rfl⟩
    have HP := Lib.hid hq
    rw [hq] at ho HR
    rcases q with _ | ⟨x, r2⟩
    · obtain rfl := ho
      exact stD_fault rfl rfl rfl Z3.out E3.out (by omega) (fun w' c => PaOut.no (q := 30) HR.out (X3.out.trans c (fun k h => .inr (by omega))) (by decide))
    · have hxl : x.hgt ≤ 100000 := by have := pE_hgt _ _ _ _ _ hq; omega
      obtain ⟨v, he, hx, hpar⟩ := ho
      obtain ⟨bv, rfl⟩ := hx.sl
      simp only [delVal, delCells] at he
      subst he
      have HX : Hid (OneEx w3 (fun q => w1.heap.size < q) (.slice (some ⟨bv, 0, none⟩) 1 1) x) := Lib.hid (hx.mono fun q h _ => by simp at h; omega)
      have HPar := Lib.hid hpar
      have fz : ∀ o, w3.frozen? ⟨w.heap.size, o, none⟩ = false := fun o => frozen_of_row w3 _ o _ _ Z3.out
      have c14 := Lib.hid (chg_set14 w3 w.heap.size (.int .i64 6) (sv [116]) (sv []) (.slice none 0 0) (.slice none 0 0) (.slice none 0 0) (.slice none 0 0) (.slice none 0 0) (.slice (some ⟨bv, 0, none⟩) 1 1) (.slice none 0 0) (.slice none 0 0) (.int .i64 (-1)) (.slice none 0 0) (.bool false))
      have h14 := Lib.hid (set14_heap w3 w.heap.size _ 61 (.int .i64 6) (sv [116]) (sv []) (.slice none 0 0) (.slice none 0 0) (.slice none 0 0) (.slice none 0 0) (.slice none 0 0) (.slice (some ⟨bv, 0, none⟩) 1 1) (.slice none 0 0) (.slice none 0 0) (.int .i64 (-1)) (.slice none 0 0) (.bool false) rfl Z3.out)
      clear hq hx hpar
      obtain ⟨z0, z1, z2, z3, z4, z5, z6, z7, z8, z9, z10, z11, z12, z13⟩ := cells14 Z3.out
      go_wp2_with fail
      generalize hV : (((((((((((((w3.setCell ⟨w.heap.size, 0, none⟩ _).setCell ⟨w.heap.size, 1, none⟩ _).setCell ⟨w.heap.size, 2, none⟩ _).setCell ⟨w.heap.size, 3, none⟩ _).setCell ⟨w.heap.size, 4, none⟩ _).setCell ⟨w.heap.size, 5, none⟩ _).setCell ⟨w.heap.size, 6, none⟩ _).setCell ⟨w.heap.size, 7, none⟩ _).setCell ⟨w.heap.size, 8, none⟩ _).setCell ⟨w.heap.size, 9, none⟩ _).setCell ⟨w.heap.size, 10, none⟩ _).setCell ⟨w.heap.size, 11, none⟩ _).setCell ⟨w.heap.size, 12, none⟩ _).setCell ⟨w.heap.size, 13, none⟩ _ = V
      have X4 : Hid (Chg (fun k => k = w.heap.size) w3 V) := Lib.hid (by rw [← hV]; exact c14.out)
      have Z4 : Hid (V.heap[w.heap.size]? = some (.cells (delCells (.slice (some ⟨bv, 0, none⟩) 1 1)).toArray 61 (0, 0))) := Lib.hid (by rw [← hV]; exact h14.out)
      clear hV c14 h14 z0 z1 z2 z3 z4 z5 z6 z7 z8 z9 z10 z11 z12 z13 fz
      have E4 : Hid (V.heap[w.heap.size + 1]? = some (.cells #[.int .i64 0] 44 (0, 0))) := Lib.hid (X4.out.heap E3.out (by omega))
      have P4 : Hid (PAt V w1.heap.size tb r2) := Lib.hid (HPar.out.chg X4.out (by omega) (by omega))
      have T4' : Hid (OneEx V (fun q => w1.heap.size < q) (.slice (some ⟨bv, 0, none⟩) 1 1) x) := Lib.hid (HX.out.chg X4.out (fun k h => by omega))
      refine (psign_any P4.out).mono ?_
      rintro e w5 ⟨bb, r3, rfl, hp5, c5, hend⟩
      have P5 := Lib.hid hp5
      have Z5 : Hid (w5.heap[w.heap.size]? = some (.cells (delCells (.slice (some ⟨bv, 0, none⟩) 1 1)).toArray 61 (0, 0))) := Lib.hid (c5.heap Z4.out (by unfold OneP; omega))
      have E5 : Hid (w5.heap[w.heap.size + 1]? = some (.cells #[.int .i64 0] 44 (0, 0))) := Lib.hid (c5.heap E4.out (by unfold OneP; omega))
      have X5 : Hid (Chg NoB w w5) := Lib.hid ((X3.out.trans X4.out (fun k h => .inr (by omega))).trans c5 (fun k h => .inr (by unfold OneP at h; omega)))
      have T5 : Hid (OneEx w5 (fun q => w1.heap.size < q) (.slice (some ⟨bv, 0, none⟩) 1 1) x) := Lib.hid (T4'.out.chg c5 (fun k h e => by unfold OneP at e; omega))
      obtain ⟨_, _, ao5, k5, _, hh5, _⟩ := hp5
      have p0 : w5.cell? ⟨w1.heap.size, 0, none⟩ = some (.slice ao5 r3.length k5) := cell_of_row w5 _ 0 _ _ _ hh5
      have HE := Lib.hid hend
      clear c5 hh5 hend
      rcases r3 with _ | ⟨t3, r3⟩
      · simp only [List.length_nil] at p0
        go_wp2_with fail
        refine (must_true _ _).mono ?_
        rintro e w' ⟨rfl, rfl⟩
        go_wp2_with fail
        refine (deep_any w.heap.size x _ bv w5 hxl Z5.out T5.out).mono ?_
        rintro e w6 ⟨rfl, c6⟩
        have X6 : Hid (Chg NoB w w6) := Lib.hid (X5.out.trans c6 (fun k h => h.elim))
        have Z6 : Hid (w6.heap[w.heap.size]? = some (.cells (delCells (.slice (some ⟨bv, 0, none⟩) 1 1)).toArray 61 (0, 0))) := Lib.hid (c6.heap Z5.out (fun h => h))
        have E6 : Hid (w6.heap[w.heap.size + 1]? = some (.cells #[.int .i64 0] 44 (0, 0))) := Lib.hid (c6.heap E5.out (fun h => h))
        have T6 : Hid (OneEx w6 (fun q => w1.heap.size < q) (.slice (some ⟨bv, 0, none⟩) 1 1) x) := Lib.hid (T5.out.chg c6 (fun k h e => e))
        clear c6 p0
        obtain ⟨z0, z1, z2, z3, z4, z5, z6, z7, z8, z9, z10, z11, z12, z13⟩ := cells14 Z6.out
        have fz : ∀ o, w6.frozen? ⟨w.heap.size, o, none⟩ = false := fun o => frozen_of_row w6 _ o _ _ Z6.out
        have ee : w6.cell? ⟨w.heap.size + 1, 0, none⟩ = some (.int .i64 0) := cell_of_row _ _ 0 _ _ _ E6.out
        have fe : ∀ o, w6.frozen? ⟨w.heap.size + 1, o, none⟩ = false := fun o => frozen_of_row w6 _ o _ _ E6.out
        by_cases h32 : 32 < x.hgt
        · have hd : decide (32 < x.hgt) = true := by simpa using h32
          rw [hd]
          go_wp2
          refine stD_leave rfl rfl rfl Z6.out rfl E6.out (by omega) (fun w' c => PaOut.no (q := 31) ?_ (X6.out.trans c (fun k h => .inr (by omega))) (by decide))
          rw [HR.out, HE.out]
          simp [h32]
        · have hd : decide (32 < x.hgt) = false := by simpa using h32
          rw [hd]
          go_wp2
          refine stD_leave rfl rfl rfl Z6.out rfl E6.out (by omega) (fun w' c => PaOut.yes (v := .slice (some ⟨bv, 0, none⟩) 1 1) ?_ (X6.out.trans c (fun k h => .inr (by omega))) ((T6.out.chg c (fun k h e => by omega)).mono fun k h _ => by omega))
          rw [HR.out, HE.out]
          simp; omega
      · simp only [List.length_cons] at p0
        go_wp2_with fail
        refine (must_false _ _).mono ?_
        rintro e w' ⟨rfl, rfl⟩
        refine stD_fault rfl rfl rfl Z5.out E5.out (by omega) (fun w' c => PaOut.no (q := 30) ?_ (X5.out.trans c (fun k h => .inr (by omega))) (by decide))
        rw [HR.out, HE.out]
        rfl
end Go.Proofs.YtnbckfkdmkbopaaGreatDoor
