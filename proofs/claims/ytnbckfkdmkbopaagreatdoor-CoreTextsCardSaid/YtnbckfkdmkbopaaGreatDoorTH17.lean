/-
  The parser's where and remove. No condition beyond each lemma's own.
  The parser's statement, at a DELETE. No condition beyond each lemma's own.
-/
import Derived.Test.YtnbckfkdmkbopaaGreatDoorTH16
set_option autoImplicit false
namespace Go.Proofs.YtnbckfkdmkbopaaGreatDoor
open Go Go.RowKit

/-- a list of one tree -/
def OneEx (w : World) (F : Nat → Prop) (v : Value) (x : Ex) : Prop := ∃ b E, v = .slice (some ⟨b, 0, none⟩) 1 1 ∧ b < w.heap.size ∧ F b ∧ w.rangeAt b 0 (ExF.cells E) ∧ ExAt w F x E
theorem OneEx.chg {w w' : World} {F G : Nat → Prop} {v : Value} {x : Ex} (h : OneEx w F v x) (c : Chg G w w') (hd : ∀ k, F k → ¬ G k) : OneEx w' F v x := by
  obtain ⟨b, E, rfl, hb, hF, hr, hx⟩ := h
  exact ⟨b, E, rfl, Nat.lt_of_lt_of_le hb c.size, hF, range_of_heap (c.keep b hb (hd b hF)) hr, ExAt.chg c hd x E hx⟩
theorem OneEx.mono {w : World} {F G : Nat → Prop} {v : Value} {x : Ex} (h : OneEx w F v x) (hG : ∀ k, F k → k < w.heap.size → G k) : OneEx w G v x := by
  obtain ⟨b, E, rfl, hb, hF, hr, hx⟩ := h
  exact ⟨b, E, rfl, hb, hG b hF hb, hr, hx.mono hG⟩
theorem OneEx.sl {w : World} {F : Nat → Prop} {v : Value} {x : Ex} (h : OneEx w F v x) : ∃ b, v = .slice (some ⟨b, 0, none⟩) 1 1 := by
  obtain ⟨b, _, rfl, _⟩ := h; exact ⟨b, rfl⟩
def WOut (r : Option (Ex × List Tok)) (g : Value → Value) (p tb : Nat) (w : World) (e : Ending) (w' : World) : Prop :=
  Chg (OneP p) w w' ∧ match r with
  | none => e = .panicked fault
  | some (x, ts) => ∃ v, e = .returned (g v) ∧ OneEx w' (fun k => w.heap.size ≤ k) v x ∧ PAt w' p tb ts
theorem WOut.no {r : Option (Ex × List Tok)} {g : Value → Value} {p tb : Nat} {w w' : World} (hr : r = none) (h : Chg (OneP p) w w') : WOut r g p tb w (.panicked fault) w' := by
  subst hr; exact ⟨h, rfl⟩
theorem WOut.yes {r : Option (Ex × List Tok)} {g : Value → Value} {p tb : Nat} {w w' : World} {x : Ex} {ts : List Tok} {v : Value} (hr : r = some (x, ts)) (h : Chg (OneP p) w w') (hx : OneEx w' (fun k => w.heap.size ≤ k) v x) (hp : PAt w' p tb ts) : WOut r g p tb w (.returned (g v)) w' := by
  subst hr; exact ⟨h, v, rfl, hx, hp⟩
theorem where_yes (p tb : Nat) (hp10 : 10 ≤ p) (ts r : List Tok) (w : World) (h : PAt w p tb ts) (hg : Glob w) (hn : nextT 1 sWHERE ts = some r) :
    Calls Tryz.prog 115 #[.pointer (some ⟨p, 0, none⟩)] w (WOut (pFull r) id p tb w) := by
  have H := Lib.hid h
  have HG := Lib.hid hg
  have HN := Lib.hid hn
  have hpl := h.lt
  clear h hg hn
  go_enter Tryz.func115, Tryz.ntmps115
  go_wp2_with fail
  refine (pword_yes H.out HN.out).mono ?_
  rintro e w1 ⟨rfl, HS⟩
  have G1 := Lib.hid (HS.out.2.glob hp10 HG.out)
  go_wp2_with fail
  refine (expr_any p tb hp10 r w1 HS.out.1 G1.out).mono ?_
  intro e w2 ho
  have X2 : Hid (Chg (OneP p) w w2) := Lib.hid (HS.out.2.trans ho.1 (fun _ h => .inl h))
  have hs := HS.out.2.size
  obtain ⟨q, hq⟩ : ∃ q, pFull r = q := ⟨_, rfl⟩
  have HQ := Lib.hid hq
  rw [hq] at ho
  rcases q with _ | ⟨x, r2⟩
  · obtain ⟨_, rfl⟩ := ho
    exact ⟨rfl, WOut.no HQ.out X2.out⟩
  · obtain ⟨_, E, rfl, hx, hpar⟩ := ho
    have HX := Lib.hid hx
    have HPar := Lib.hid hpar
    clear hq hx hpar
    go_wp2
    have XB : Chg NoB w2 (w2.alloc E.obj) := (Chg.refl NoB w2).alloc E.obj
    go_ret
    refine WOut.yes (g := id) HQ.out (X2.out.trans XB (fun _ h => h.elim)) ⟨w2.heap.size, E, rfl, by simp, by have := X2.out.size; omega, range_block hal_new, ?_⟩ (HPar.out.quiet XB)
    exact (HX.out.mono (fun q h _ => by omega)).quiet XB
/-- a DELETE's cells -/
def delCells (v : Value) : List Value := [.int .i64 6, sv [116], sv [], .slice none 0 0, .slice none 0 0, .slice none 0 0, .slice none 0 0, .slice none 0 0, v, .slice none 0 0, .slice none 0 0, .int .i64 (-1), .slice none 0 0, .bool false]
def delVal (v : Value) : Value := .agg (delCells v).toArray
def zeroSt : List Value := [.int .i64 0, sv [], sv [], .slice none 0 0, .slice none 0 0, .slice none 0 0, .slice none 0 0, .slice none 0 0, .slice none 0 0, .slice none 0 0, .slice none 0 0, .int .i64 0, .slice none 0 0, .bool false]
/-- fourteen cells, set one by one -/
theorem chg_set14 (w : World) (b : Nat) (c0 c1 c2 c3 c4 c5 c6 c7 c8 c9 c10 c11 c12 c13 : Value) : Chg (fun k => k = b) w ((((((((((((((w.setCell ⟨b, 0, none⟩ c0).setCell ⟨b, 1, none⟩ c1).setCell ⟨b, 2, none⟩ c2).setCell ⟨b, 3, none⟩ c3).setCell ⟨b, 4, none⟩ c4).setCell ⟨b, 5, none⟩ c5).setCell ⟨b, 6, none⟩ c6).setCell ⟨b, 7, none⟩ c7).setCell ⟨b, 8, none⟩ c8).setCell ⟨b, 9, none⟩ c9).setCell ⟨b, 10, none⟩ c10).setCell ⟨b, 11, none⟩ c11).setCell ⟨b, 12, none⟩ c12).setCell ⟨b, 13, none⟩ c13) := by
  exact Chg.setCell (p := ⟨b, 13, none⟩) (Chg.setCell (p := ⟨b, 12, none⟩) (Chg.setCell (p := ⟨b, 11, none⟩) (Chg.setCell (p := ⟨b, 10, none⟩) (Chg.setCell (p := ⟨b, 9, none⟩) (Chg.setCell (p := ⟨b, 8, none⟩) (Chg.setCell (p := ⟨b, 7, none⟩) (Chg.setCell (p := ⟨b, 6, none⟩) (Chg.setCell (p := ⟨b, 5, none⟩) (Chg.setCell (p := ⟨b, 4, none⟩) (Chg.setCell (p := ⟨b, 3, none⟩) (Chg.setCell (p := ⟨b, 2, none⟩) (Chg.setCell (p := ⟨b, 1, none⟩) (Chg.setCell (p := ⟨b, 0, none⟩) (Chg.refl (fun k => k = b) w) (.inl rfl) _) (.inl rfl) _) (.inl rfl) _) (.inl rfl) _) (.inl rfl) _) (.inl rfl) _) (.inl rfl) _) (.inl rfl) _) (.inl rfl) _) (.inl rfl) _) (.inl rfl) _) (.inl rfl) _) (.inl rfl) _) (.inl rfl) _
theorem set14_heap (w : World) (b : Nat) (old : Array Value) (t : TypeId) (c0 c1 c2 c3 c4 c5 c6 c7 c8 c9 c10 c11 c12 c13 : Value) (ho : old.size = 14) (h : w.heap[b]? = some (.cells old t (0, 0))) : ((((((((((((((w.setCell ⟨b, 0, none⟩ c0).setCell ⟨b, 1, none⟩ c1).setCell ⟨b, 2, none⟩ c2).setCell ⟨b, 3, none⟩ c3).setCell ⟨b, 4, none⟩ c4).setCell ⟨b, 5, none⟩ c5).setCell ⟨b, 6, none⟩ c6).setCell ⟨b, 7, none⟩ c7).setCell ⟨b, 8, none⟩ c8).setCell ⟨b, 9, none⟩ c9).setCell ⟨b, 10, none⟩ c10).setCell ⟨b, 11, none⟩ c11).setCell ⟨b, 12, none⟩ c12).setCell ⟨b, 13, none⟩ c13).heap[b]? = some (.cells #[c0, c1, c2, c3, c4, c5, c6, c7, c8, c9, c10, c11, c12, c13] t (0, 0)) := by
  obtain ⟨l⟩ := old
  match l, ho with
  | [o0, o1, o2, o3, o4, o5, o6, o7, o8, o9, o10, o11, o12, o13], _ =>
    have h := hset_eq (i := 0) (v := c0) h; have h := hset_eq (i := 1) (v := c1) h; have h := hset_eq (i := 2) (v := c2) h; have h := hset_eq (i := 3) (v := c3) h; have h := hset_eq (i := 4) (v := c4) h; have h := hset_eq (i := 5) (v := c5) h; have h := hset_eq (i := 6) (v := c6) h; have h := hset_eq (i := 7) (v := c7) h; have h := hset_eq (i := 8) (v := c8) h; have h := hset_eq (i := 9) (v := c9) h; have h := hset_eq (i := 10) (v := c10) h; have h := hset_eq (i := 11) (v := c11) h; have h := hset_eq (i := 12) (v := c12) h; have h := hset_eq (i := 13) (v := c13) h
    simp only [List.setIfInBounds_toArray, List.set_cons_zero, List.set_cons_succ] at h
    exact h
theorem st_ret {fn : Func} {Q : Ending → World → Prop} {tmps : Array Value} {w : World} {b q : Nat} {old : Array Value} (v : Value) (hres : fn.results = #[.cell q 61]) (hq : tmps.getD q undef = .pointer (some ⟨b, 0, none⟩))
    (hb : w.heap[b]? = some (.cells old 61 (0, 0))) (ho : old.size = 14) (hQ : ∀ w', Chg (fun k => k = b) w w' → Q (.returned (delVal v)) w') :
    bodyPost Tryz.prog fn Q Exit.ret ⟨tmps, []⟩ ((((((((((((((w.setCell ⟨b, 0, none⟩ (.int .i64 6)).setCell ⟨b, 1, none⟩ (sv [116])).setCell ⟨b, 2, none⟩ (sv [])).setCell ⟨b, 3, none⟩ (.slice none 0 0)).setCell ⟨b, 4, none⟩ (.slice none 0 0)).setCell ⟨b, 5, none⟩ (.slice none 0 0)).setCell ⟨b, 6, none⟩ (.slice none 0 0)).setCell ⟨b, 7, none⟩ (.slice none 0 0)).setCell ⟨b, 8, none⟩ v).setCell ⟨b, 9, none⟩ (.slice none 0 0)).setCell ⟨b, 10, none⟩ (.slice none 0 0)).setCell ⟨b, 11, none⟩ (.int .i64 (-1))).setCell ⟨b, 12, none⟩ (.slice none 0 0)).setCell ⟨b, 13, none⟩ (.bool false)) :=
  bodyPost_ret (v := delVal v) (results_big1 (P := Tryz.prog) hres tmps _ b (delCells v) _ hq (range_block (set14_heap w b old _ (.int .i64 6) (sv [116]) (sv []) (.slice none 0 0) (.slice none 0 0) (.slice none 0 0) (.slice none 0 0) (.slice none 0 0) v (.slice none 0 0) (.slice none 0 0) (.int .i64 (-1)) (.slice none 0 0) (.bool false) ho hb)) Tryz.underlying61 rfl (by kernel_rfl)) rfl (hQ _ (chg_set14 w b (.int .i64 6) (sv [116]) (sv []) (.slice none 0 0) (.slice none 0 0) (.slice none 0 0) (.slice none 0 0) (.slice none 0 0) v (.slice none 0 0) (.slice none 0 0) (.int .i64 (-1)) (.slice none 0 0) (.bool false)))
/-- what a walk asks of the fourteen -/
theorem cells14 {w : World} {b : Nat} {t : TypeId} {c0 c1 c2 c3 c4 c5 c6 c7 c8 c9 c10 c11 c12 c13 : Value} (h : w.heap[b]? = some (.cells #[c0, c1, c2, c3, c4, c5, c6, c7, c8, c9, c10, c11, c12, c13] t (0, 0))) : w.cell? ⟨b, 0, none⟩ = some c0 ∧ w.cell? ⟨b, 1, none⟩ = some c1 ∧ w.cell? ⟨b, 2, none⟩ = some c2 ∧ w.cell? ⟨b, 3, none⟩ = some c3 ∧ w.cell? ⟨b, 4, none⟩ = some c4 ∧ w.cell? ⟨b, 5, none⟩ = some c5 ∧ w.cell? ⟨b, 6, none⟩ = some c6 ∧ w.cell? ⟨b, 7, none⟩ = some c7 ∧ w.cell? ⟨b, 8, none⟩ = some c8 ∧ w.cell? ⟨b, 9, none⟩ = some c9 ∧ w.cell? ⟨b, 10, none⟩ = some c10 ∧ w.cell? ⟨b, 11, none⟩ = some c11 ∧ w.cell? ⟨b, 12, none⟩ = some c12 ∧ w.cell? ⟨b, 13, none⟩ = some c13 :=
  ⟨cell_of_row w b 0 _ _ _ h, cell_of_row w b 1 _ _ _ h, cell_of_row w b 2 _ _ _ h, cell_of_row w b 3 _ _ _ h, cell_of_row w b 4 _ _ _ h, cell_of_row w b 5 _ _ _ h, cell_of_row w b 6 _ _ _ h, cell_of_row w b 7 _ _ _ h, cell_of_row w b 8 _ _ _ h, cell_of_row w b 9 _ _ _ h, cell_of_row w b 10 _ _ _ h, cell_of_row w b 11 _ _ _ h, cell_of_row w b 12 _ _ _ h, cell_of_row w b 13 _ _ _ h⟩
theorem remove_yes (p tb : Nat) (hp10 : 10 ≤ p) (n1 n2 n3 : Int) (r : List Tok) (w : World) (h : PAt w p tb (⟨1, sFROM, n1⟩ :: ⟨2, [116], n2⟩ :: ⟨1, sWHERE, n3⟩ :: r)) (hg : Glob w) :
    Calls Tryz.prog 69 #[.pointer (some ⟨p, 0, none⟩)] w (WOut (pFull r) delVal p tb w) := by
  have hpl := h.lt
  have htl := h.tl
  have H := Lib.hid h
  have HG := Lib.hid hg
  have H1 : Hid (nextT 1 sFROM (⟨1, sFROM, n1⟩ :: ⟨2, [116], n2⟩ :: ⟨1, sWHERE, n3⟩ :: r) = some (⟨2, [116], n2⟩ :: ⟨1, sWHERE, n3⟩ :: r)) := Lib.hid (by simp [nextT])
  have H2 : Hid (takeT 2 (⟨2, [116], n2⟩ :: ⟨1, sWHERE, n3⟩ :: r) = some (⟨2, [116], n2⟩, ⟨1, sWHERE, n3⟩ :: r)) := Lib.hid (by simp [takeT])
  have H3 : Hid (nextT 1 sWHERE (⟨1, sWHERE, n3⟩ :: r) = some r) := Lib.hid (by simp [nextT])
  clear h hg
  go_enter Tryz.func69, Tryz.ntmps69
  have X0 : Chg NoB w _ := (Chg.refl NoB w).alloc (.cells zeroSt.toArray 61)
  have P0 := Lib.hid (H.out.quiet X0)
  have G0 := Lib.hid (HG.out.quiet X0)
  have Z0 : Hid ((w.alloc (.cells zeroSt.toArray 61)).heap[w.heap.size]? = some (.cells zeroSt.toArray 61)) := Lib.hid hal_new
  have X0' := Lib.hid X0
  clear X0
  go_wp2_with fail
  refine (words_yes (.inr rfl) P0.out G0.out H1.out).mono ?_
  rintro e w1 ⟨rfl, HS1⟩
  have X1 : Hid (Chg (OneP p) w w1) := Lib.hid ((chg_no X0'.out).trans HS1.out.2 (fun _ h => .inl h))
  have Z1 : Hid (w1.heap[w.heap.size]? = some (.cells zeroSt.toArray 61)) := Lib.hid (HS1.out.2.heap Z0.out (by unfold OneP; omega))
  have G1 := Lib.hid (HS1.out.2.glob hp10 G0.out)
  go_wp2_with fail
  refine (pname_yes HS1.out.1 H2.out).mono ?_
  rintro e w2 ⟨rfl, HS2⟩
  have X2 : Hid (Chg (OneP p) w w2) := Lib.hid (X1.out.trans HS2.out.2 (fun _ h => .inl h))
  have Z2 : Hid (w2.heap[w.heap.size]? = some (.cells zeroSt.toArray 61)) := Lib.hid (HS2.out.2.heap Z1.out (by unfold OneP; omega))
  have G2 := Lib.hid (HS2.out.2.glob hp10 G1.out)
  go_wp2_with fail
  refine (where_yes p tb hp10 _ r w2 HS2.out.1 G2.out H3.out).mono ?_
  intro e w3 ho
  have X3 : Hid (Chg (OneP p) w w3) := Lib.hid (X2.out.trans ho.1 (fun _ h => .inl h))
  have Z3 : Hid (w3.heap[w.heap.size]? = some (.cells zeroSt.toArray 61)) := Lib.hid (ho.1.heap Z2.out (by unfold OneP; omega))
  have hs2 := lt_of_heap Z2.out
  obtain ⟨q, hq⟩ : ∃ q, pFull r = q := ⟨_, rfl⟩
  have HQ := Lib.hid hq
  obtain ⟨_, ho⟩ := ho
  rw [hq] at ho
  rcases q with _ | ⟨x, r2⟩
  · obtain rfl := ho
    exact ⟨rfl, WOut.no HQ.out X3.out⟩
  · obtain ⟨v, rfl, hx, hpar⟩ := ho
    obtain ⟨bv, rfl⟩ := hx.sl
    have HX : Hid (OneEx w3 (fun q => w.heap.size < q) (.slice (some ⟨bv, 0, none⟩) 1 1) x) := Lib.hid (hx.mono fun q h _ => by omega)
    have HPar := Lib.hid hpar
    have fz : ∀ o, w3.frozen? ⟨w.heap.size, o, none⟩ = false := fun o => frozen_of_row w3 _ o _ _ Z3.out
    clear hq hx hpar
    obtain ⟨z0, z1, z2, z3, z4, z5, z6, z7, z8, z9, z10, z11, z12, z13⟩ := cells14 Z3.out
    go_wp2
    exact st_ret _ rfl rfl Z3.out rfl (fun w' c => WOut.yes HQ.out (X3.out.trans c (fun k hk => .inr (by omega))) (HX.out.chg c (fun k hk e => by omega) |>.mono fun k h _ => by omega) (HPar.out.chg c (by omega) (by omega)))
end Go.Proofs.YtnbckfkdmkbopaaGreatDoor

set_option autoImplicit false
namespace Go.Proofs.YtnbckfkdmkbopaaGreatDoor
open Go Go.RowKit

theorem plain_any (k : Int) (w : World) : Calls Tryz.prog 70 #[.int .i64 k] w fun e w' => (∃ v, e = .returned v) ∧ Chg NoB w w' := by
  go_enter Tryz.func70, Tryz.ntmps70
  go_wp2
  go_ret
  exact ⟨⟨_, rfl⟩, (Chg.refl _ _).alloc _⟩
/-- the map of the statements' readers while it is being made: what it holds at DELETE -/
def MkI (w : World) (b : Nat) (X : Option Value) (w' : World) : Prop :=
  Chg NoB w w' ∧ w.heap.size ≤ b ∧ ∃ es c, w'.heap[b]? = some (.map es c) ∧ KeysTy .string es.toList ∧ mfind es.toList (sv sDELETE) = X
theorem MkI.quiet {w w' w2 : World} {b : Nat} {X : Option Value} (h : MkI w b X w') (c : Chg NoB w' w2) : MkI w b X w2 := by
  obtain ⟨h0, h1, es, k, hm, h2, h3⟩ := h
  exact ⟨h0.trans c (fun _ h => .inl h), h1, es, k, c.heap hm (fun h => h), h2, h3⟩
theorem MkI.put {w w' : World} {b : Nat} {X : Option Value} (h : MkI w b X w') (s : Str) (v : Value) {t kt et : TypeId} (hm : Tryz.prog.underlying t = some (.map kt et)) (hu : Tryz.prog.underlying kt = some .string) :
    ∃ w2, (Instr.mapUpdate t (.map (some b)) (sv s) v).run Tryz.prog w' = .ok () w2 ∧ MkI w b (if kmatch (sv sDELETE) (sv s) then some v else X) w2 := by
  obtain ⟨h0, h1, es, k, hm0, h2, h3⟩ := h
  refine ⟨_, run_mapUpdate w' hm hu (by trivial) hm0 h2, h0.setObj (.inr h1) _, h1, _, _, hobj_eq (lt_of_heap hm0), mput_keys (by trivial) h2, ?_⟩
  rw [mfind_mput (d := .string) (by trivial), h3]
theorem ins_keep {w w' : World} {b : Nat} {X : Option Value} {ops : Array Oper} {rest : List Oper} {o : Oper} {a : Act} {Q : Exit → Act → World → Prop} (h : Hid (MkI w b X w')) {T : TypeId} {x y z : Operand} {s : Str}
    (hg : o.guard = none) (ho : o.op = .insert T x y z) (e0 : a.eval x = .map (some b)) (e1 : a.eval y = sv s) {kt et : TypeId} (hm : Tryz.prog.underlying T = some (.map kt et)) (hu : Tryz.prog.underlying kt = some .string)
    (hq : kmatch (sv sDELETE) (sv s) = false) (hk : ∀ w2, Hid (MkI w b X w2) → wpList Tryz.prog ops Q rest (a.put o.dst undef) w2) : wpList Tryz.prog ops Q (o :: rest) a w' := by
  obtain ⟨w2, hr, h2⟩ := h.out.put s (a.eval z) hm hu
  rw [hq] at h2
  exact wpList_plain hg fun K hK => op_insert ho hr (hK _ _ (hk _ (Lib.hid h2))) e0 e1 rfl
theorem ins_new {w w' : World} {b : Nat} {X : Option Value} {ops : Array Oper} {rest : List Oper} {o : Oper} {a : Act} {Q : Exit → Act → World → Prop} (h : Hid (MkI w b X w')) {T : TypeId} {x y z : Operand} {s : Str} (v : Value)
    (hg : o.guard = none) (ho : o.op = .insert T x y z) (e0 : a.eval x = .map (some b)) (e1 : a.eval y = sv s) (e2 : a.eval z = v) {kt et : TypeId} (hm : Tryz.prog.underlying T = some (.map kt et)) (hu : Tryz.prog.underlying kt = some .string)
    (hq : kmatch (sv sDELETE) (sv s) = true) (hk : ∀ w2, Hid (MkI w b (some v) w2) → wpList Tryz.prog ops Q rest (a.put o.dst undef) w2) : wpList Tryz.prog ops Q (o :: rest) a w' := by
  obtain ⟨w2, hr, h2⟩ := h.out.put s v hm hu
  rw [hq] at h2
  exact wpList_plain hg fun K hK => op_insert ho hr (hK _ _ (hk _ (Lib.hid h2))) e0 e1 e2
attribute [local go_sem ↓] field_tok1 in
set_option maxRecDepth 100000 in
set_option maxHeartbeats 4000000 in
theorem statement_yes (p tb : Nat) (hp10 : 10 ≤ p) (n0 n1 n2 n3 : Int) (r : List Tok) (w : World) (h : PAt w p tb (⟨1, sDELETE, n0⟩ :: ⟨1, sFROM, n1⟩ :: ⟨2, [116], n2⟩ :: ⟨1, sWHERE, n3⟩ :: r)) (hg : Glob w) :
    Calls Tryz.prog 38 #[.pointer (some ⟨p, 0, none⟩)] w (WOut (pFull r) delVal p tb w) := by
  have hpl := h.lt
  have htl := h.tl
  have hcc := h.cells
  obtain ⟨o, c, hc, hh, hr, hr2⟩ := hcc
  have hal : ∀ x, x < w.heap.size → (w.alloc (.cells #[.int .i64 0, .string ⟨#[]⟩, .string ⟨#[]⟩, .slice none 0 0, .slice none 0 0, .slice none 0 0, .slice none 0 0, .slice none 0 0, .slice none 0 0, .slice none 0 0, .slice none 0 0, .int .i64 0, .slice none 0 0, .bool false] 61)).heap[x]? = w.heap[x]? := fun x hx => hal_old hx
  have c0 : (w.alloc (.cells #[.int .i64 0, .string ⟨#[]⟩, .string ⟨#[]⟩, .slice none 0 0, .slice none 0 0, .slice none 0 0, .slice none 0 0, .slice none 0 0, .slice none 0 0, .slice none 0 0, .slice none 0 0, .int .i64 0, .slice none 0 0, .bool false] 61)).cell? ⟨p, 0, none⟩ = some (.slice (some ⟨tb, o, none⟩) _ c) := cell_of_row _ p 0 _ _ _ ((hal p hpl).trans hh)
  have q0 : (w.alloc (.cells #[.int .i64 0, .string ⟨#[]⟩, .string ⟨#[]⟩, .slice none 0 0, .slice none 0 0, .slice none 0 0, .slice none 0 0, .slice none 0 0, .slice none 0 0, .slice none 0 0, .slice none 0 0, .int .i64 0, .slice none 0 0, .bool false] 61)).cell? ⟨tb, o, none⟩ = some (.int .i64 1) := (cell_of_heap (hal tb htl)).trans (hr 0 _ rfl)
  have X0 : Hid (Chg NoB w (w.alloc (.cells #[.int .i64 0, .string ⟨#[]⟩, .string ⟨#[]⟩, .slice none 0 0, .slice none 0 0, .slice none 0 0, .slice none 0 0, .slice none 0 0, .slice none 0 0, .slice none 0 0, .slice none 0 0, .int .i64 0, .slice none 0 0, .bool false] 61))) := Lib.hid ((Chg.refl NoB w).alloc (.cells #[.int .i64 0, .string ⟨#[]⟩, .string ⟨#[]⟩, .slice none 0 0, .slice none 0 0, .slice none 0 0, .slice none 0 0, .slice none 0 0, .slice none 0 0, .slice none 0 0, .slice none 0 0, .int .i64 0, .slice none 0 0, .bool false] 61))
  have P0 := Lib.hid (h.quiet X0.out)
  have G0 := Lib.hid (hg.quiet X0.out)
  have Z0 : Hid ((w.alloc (.cells #[.int .i64 0, .string ⟨#[]⟩, .string ⟨#[]⟩, .slice none 0 0, .slice none 0 0, .slice none 0 0, .slice none 0 0, .slice none 0 0, .slice none 0 0, .slice none 0 0, .slice none 0 0, .int .i64 0, .slice none 0 0, .bool false] 61)).heap[w.heap.size]? = some (.cells zeroSt.toArray 61)) := Lib.hid hal_new
  have hT : Hid (takeT 1 (⟨1, sDELETE, n0⟩ :: ⟨1, sFROM, n1⟩ :: ⟨2, [116], n2⟩ :: ⟨1, sWHERE, n3⟩ :: r) = some (⟨1, sDELETE, n0⟩, ⟨1, sFROM, n1⟩ :: ⟨2, [116], n2⟩ :: ⟨1, sWHERE, n3⟩ :: r)) := Lib.hid (by simp [takeT])
  simp only [List.length_cons] at c0
  obtain ⟨n, hn⟩ : ∃ n, n = r.length + 1 + 1 + 1 := ⟨_, rfl⟩
  rw [← hn] at c0
  have hz2 : (0 : Int) < (n : Int) + 1 := by omega
  clear h hr hr2 hh hal hg hn
  have hmm := @run_makeMap Tryz.prog
  go_enter Tryz.func38, Tryz.ntmps38
  go_wp2_with fail
  refine (must_true _ _).mono ?_
  rintro e w' ⟨rfl, rfl⟩
  have HJ : Hid (MkI (w.alloc (.cells #[.int .i64 0, .string ⟨#[]⟩, .string ⟨#[]⟩, .slice none 0 0, .slice none 0 0, .slice none 0 0, .slice none 0 0, .slice none 0 0, .slice none 0 0, .slice none 0 0, .slice none 0 0, .int .i64 0, .slice none 0 0, .bool false] 61)) (w.heap.size + 1) none ((w.alloc (.cells #[.int .i64 0, .string ⟨#[]⟩, .string ⟨#[]⟩, .slice none 0 0, .slice none 0 0, .slice none 0 0, .slice none 0 0, .slice none 0 0, .slice none 0 0, .slice none 0 0, .slice none 0 0, .int .i64 0, .slice none 0 0, .bool false] 61)).alloc (.map #[] 0))) := Lib.hid ⟨(Chg.refl NoB _).alloc _, by simp, #[], 0, hal_new' (by simp), (fun e he => by simp at he), rfl⟩
  go_wp2_with (first | (refine ins_keep HJ rfl rfl rfl rfl Tryz.underlying139 Tryz.underlying9 (by decide +kernel) ?_; clear HJ; intro w' HJ) | (refine ins_new HJ (.func (.func 69) #[] #[]) rfl rfl rfl rfl rfl Tryz.underlying139 Tryz.underlying9 (by decide +kernel) ?_; clear HJ; intro w' HJ) | (go_at_call 70; refine (plain_any _ _).mono ?_; rintro e w' ⟨⟨v, rfl⟩, hc⟩; replace HJ := Lib.hid (HJ.out.quiet hc); clear hc))
  have XJ : Hid (Chg NoB (w.alloc (.cells #[.int .i64 0, .string ⟨#[]⟩, .string ⟨#[]⟩, .slice none 0 0, .slice none 0 0, .slice none 0 0, .slice none 0 0, .slice none 0 0, .slice none 0 0, .slice none 0 0, .slice none 0 0, .int .i64 0, .slice none 0 0, .bool false] 61)) w') := Lib.hid HJ.out.1
  have PJ := Lib.hid (P0.out.quiet XJ.out)
  have GJ := Lib.hid (G0.out.quiet XJ.out)
  have ZJ : Hid (w'.heap[w.heap.size]? = some (.cells zeroSt.toArray 61)) := Lib.hid (XJ.out.heap Z0.out (fun h => h))
  have hzj := lt_of_heap ZJ.out
  refine (take_yes PJ.out hT.out).mono ?_
  rintro e w1 ⟨rfl, HS⟩
  have X1 : Hid (Chg (OneP p) w w1) := Lib.hid ((chg_no (X0.out.trans XJ.out (fun _ h => .inl h))).trans HS.out.2 (fun _ h => .inl h))
  have Z1 : Hid (w1.heap[w.heap.size]? = some (.cells zeroSt.toArray 61)) := Lib.hid (HS.out.2.heap ZJ.out (by unfold OneP; omega))
  have G1 := Lib.hid (HS.out.2.glob hp10 GJ.out)
  obtain ⟨_, hm1, es, cc, hmo, hks, hfd⟩ := HJ.out
  have hmo1 : w1.heap[w.heap.size + 1]? = some (.map es cc) := HS.out.2.heap hmo (by unfold OneP; omega)
  have hlk := run_lookup (P := Tryz.prog) w1 (t := 139) (kt := 9) (et := 137) (d := .string) (k := sv sDELETE) (z := .nilFunc) Tryz.underlying139 Tryz.underlying9 (by trivial) hmo1 hks (fun _ => by kernel_rfl) true
  rw [hfd] at hlk
  simp only [Option.getD_some, Option.isSome_some, if_true] at hlk
  go_wp2_with (first | (refine wpList_plain rfl (fun K hK => op_lookup rfl hlk (hK _ _ ?_))))
  refine (must_true _ _).mono ?_
  rintro e w' ⟨rfl, rfl⟩
  go_wp2_with fail
  refine (remove_yes p tb hp10 n1 n2 n3 r _ HS.out.1 G1.out).mono ?_
  intro e w3 ho
  have X3 : Hid (Chg (OneP p) w w3) := Lib.hid (X1.out.trans ho.1 (fun _ h => .inl h))
  have Z3 : Hid (w3.heap[w.heap.size]? = some (.cells zeroSt.toArray 61)) := Lib.hid (ho.1.heap Z1.out (by unfold OneP; omega))
  have hs2 := lt_of_heap Z1.out
  obtain ⟨q, hq⟩ : ∃ q, pFull r = q := ⟨_, rfl⟩
  have HQ := Lib.hid hq
  obtain ⟨_, ho⟩ := ho
  rw [hq] at ho
  rcases q with _ | ⟨x, r2⟩
  · obtain rfl := ho
    exact ⟨rfl, WOut.no HQ.out X3.out⟩
  · obtain ⟨v, he, hx, hpar⟩ := ho
    obtain ⟨bv, rfl⟩ := hx.sl
    simp only [delVal, delCells] at he
    subst he
    have HX : Hid (OneEx w3 (fun q => w.heap.size < q) (.slice (some ⟨bv, 0, none⟩) 1 1) x) := Lib.hid (hx.mono fun q h _ => by omega)
    have HPar := Lib.hid hpar
    have fz : ∀ o, w3.frozen? ⟨w.heap.size, o, none⟩ = false := fun o => frozen_of_row w3 _ o _ _ Z3.out
    clear hq hx hpar hmo1 hlk hmo hks hfd
    obtain ⟨z0, z1, z2, z3, z4, z5, z6, z7, z8, z9, z10, z11, z12, z13⟩ := cells14 Z3.out
    go_wp2
    exact st_ret _ rfl rfl Z3.out rfl (fun w' c => WOut.yes HQ.out (X3.out.trans c (fun k hk => .inr (by omega))) (HX.out.chg c (fun k hk e => by omega) |>.mono fun k h _ => by omega) (HPar.out.chg c (by omega) (by omega)))
end Go.Proofs.YtnbckfkdmkbopaaGreatDoor
