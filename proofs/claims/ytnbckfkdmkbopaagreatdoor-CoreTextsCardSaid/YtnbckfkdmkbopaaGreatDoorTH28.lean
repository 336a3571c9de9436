/-
  Plans: literals, whole; what a condition asks: the way to its first comparison. No condition beyond each lemma's own.
  The table that is asked, its scope. No condition beyond each lemma's own.
  Is a tree of a DELETE too high? No condition beyond each lemma's own.
-/
import Derived.Test.YtnbckfkdmkbopaaGreatDoorTH27
import Derived.Test.YtnbckfkdmkbopaaGreatDoorTH18
set_option autoImplicit false
namespace Go.Proofs.YtnbckfkdmkbopaaGreatDoor
open Go Go.RowKit

set_option maxRecDepth 100000 in
set_option maxHeartbeats 1000000 in
theorem lit_none (E : ExF) (w : World) (h1 : ¬ E.k = 1) (h3 : ¬ E.k = 3) : Calls Tryz.prog 48 #[E.val] w (LOut none w) := by
  have b1 : (E.k == 1) = false := by simpa using h1
  have b3 : (E.k == 3) = false := by simpa using h3
  clear h1 h3
  go_enter Tryz.func48, Tryz.ntmps48
  go_wp2_with fail
  exact val_retE Val.null rfl rfl (hal_new' (by simp)) (LOut.mk (b := false) rfl (((Chg.refl NoB w).alloc _).alloc _))
theorem lit_any (cs : List Bcol) (y : Ex) (t : Int) (ht : tyL cs y = some t) (E : ExF) (F : Nat → Prop) (w : World) (hx : ExAt w F y E) : Calls Tryz.prog 48 #[E.val] w (LOut (litL y) w) := by
  have hk := hx.kind
  match y, hx, ht, hk with
  | .val v, hx, _, _ => subst hx; exact lit_val v w
  | .slot i, hx, _, _ => subst hx; exact lit_none _ w (by show ¬ (24 : Int) = 1; decide) (by show ¬ (24 : Int) = 3; decide)
  | .col a b, _, ht, _ => simp [tyL] at ht
  | .cnt, _, ht, _ => simp [tyL] at ht
  | .un k a, hx, ht, hk =>
    simp only [tyL] at ht
    split at ht
    · rename_i hu
      split at ht
      · cases ht
      · rename_i s hs
        by_cases h3 : k = 3
        · subst h3
          exact lit_neg a cs s hs E F w hx
        · have hn : litL (.un k a) = none := by
            cases a <;> simp [litL, h3]
          rw [hn]
          exact lit_none E w (by rw [hk]; simp only [Ex.kind]; intro h; subst h; simp [unK] at hu) (by rw [hk]; exact h3)
    · cases ht
  | .bin k a b, hx, ht, hk =>
    simp only [tyL] at ht
    split at ht
    · rename_i hu
      have hn : litL (.bin k a b) = none := rfl
      rw [hn]
      have : 5 ≤ k := by simp [binK] at hu; omega
      exact lit_none E w (by rw [hk]; simp only [Ex.kind]; omega) (by rw [hk]; simp only [Ex.kind]; omega)
    · cases ht
/-- the table whose columns are of such types -/
structure TabT (w : World) (F : Nat → Prop) (cs : List Bcol) (tb : Nat) : Prop where
  lt : tb < w.heap.size
  fr : F tb
  ty : ∀ (i : Nat) (c : Bcol), cs[i]? = some c → w.cell? ⟨tb, i * 4 + 1, none⟩ = some (.int .i64 c.ty)
theorem TabT.chg {w w' : World} {F G : Nat → Prop} {cs : List Bcol} {tb : Nat} (h : TabT w F cs tb) (c : Chg G w w') (hd : ∀ k, F k → ¬ G k) : TabT w' F cs tb :=
  ⟨Nat.lt_of_lt_of_le h.lt c.size, h.fr, fun i d hd' => (cell_of_heap (c.keep tb h.lt (hd tb h.fr))).trans (h.ty i d hd')⟩
theorem TabT.quiet {w w' : World} {F : Nat → Prop} {cs : List Bcol} {tb : Nat} (h : TabT w F cs tb) (c : Chg NoB w w') : TabT w' F cs tb := h.chg c (fun _ _ h => h)
/-- what is said of a question -/
def QOut (r : Option (Nat × Int × Val)) (w : World) (e : Ending) (w' : World) : Prop :=
  Chg NoB w w' ∧ match r with
  | none => e = .returned (.tuple #[.int .i64 0, .int .i64 0, Val.null.val])
  | some (i, k, v) => e = .returned (.tuple #[.int .i64 i, .int .i64 k, v.val])
theorem QOut.no {r : Option (Nat × Int × Val)} {w w' : World} (hr : r = none) (c : Chg NoB w w') : QOut r w (.returned (.tuple #[.int .i64 0, .int .i64 0, Val.null.val])) w' := by subst hr; exact ⟨c, rfl⟩
theorem QOut.yes {r : Option (Nat × Int × Val)} {w w' : World} {i : Nat} {k : Int} {v : Val} (hr : r = some (i, k, v)) (c : Chg NoB w w') : QOut r w (.returned (.tuple #[.int .i64 i, .int .i64 k, v.val])) w' := by subst hr; exact ⟨c, rfl⟩
theorem results_q {fn : Func} (h : fn.results = #[.tmp 4, .tmp 5, .cell 6 26]) (tmps : Array Value) (w : World) (b : Nat) (V : Val) (hp : tmps.getD 6 undef = .pointer (some ⟨b, 0, none⟩)) (hs : w.heap[b]? = some V.obj) :
    (results fn tmps).run Tryz.prog w = .ok (.tuple #[tmps.getD 4 undef, tmps.getD 5 undef, V.val]) w := by
  have hp' : tmps[6]?.getD undef = .pointer (some ⟨b, 0, none⟩) := by simpa using hp
  have h1 := run_loadVar_mid (P := Tryz.prog) w b 0 26 V.cells _ (range_block hs) Tryz.underlying26 rfl (by kernel_rfl)
  simp [results, h, hp', asAddr, h1]
  rfl
theorem q_ret {fn : Func} {Q : Ending → World → Prop} {tmps : Array Value} {w : World} {b : Nat} (V : Val) (h : fn.results = #[.tmp 4, .tmp 5, .cell 6 26]) (hp : tmps.getD 6 undef = .pointer (some ⟨b, 0, none⟩)) (hs : w.heap[b]? = some V.obj)
    (hQ : Q (.returned (.tuple #[tmps.getD 4 undef, tmps.getD 5 undef, V.val])) w) : bodyPost Tryz.prog fn Q Exit.ret ⟨tmps, []⟩ w :=
  bodyPost_ret (results_q h _ _ b V hp hs) rfl hQ
theorem q_ret3 {fn : Func} {Q : Ending → World → Prop} {tmps : Array Value} {w : World} {b : Nat} {Z : Val} (V : Val) (h : fn.results = #[.tmp 4, .tmp 5, .cell 6 26]) (hp : tmps.getD 6 undef = .pointer (some ⟨b, 0, none⟩)) (hs : w.heap[b]? = some Z.obj)
    (hQ : ∀ w', Chg (OneP b) w w' → Q (.returned (.tuple #[tmps.getD 4 undef, tmps.getD 5 undef, V.val])) w') :
    bodyPost Tryz.prog fn Q Exit.ret ⟨tmps, []⟩ (((w.setCell ⟨b, 0, none⟩ (.int .i64 V.kind)).setCell ⟨b, 1, none⟩ (.int .i64 V.num)).setCell ⟨b, 2, none⟩ (sv V.str)) :=
  q_ret V h hp (val_set hs V) (hQ _ (chg_set3 _ _ _))
theorem q_ret3d {fn : Func} {Q : Ending → World → Prop} {tmps : Array Value} {w : World} {b : Nat} {Z : Val} (V : Val) (h : fn.results = #[.tmp 4, .tmp 5, .cell 6 26]) (hp : tmps.getD 6 undef = .pointer (some ⟨b, 0, none⟩)) (hs : w.heap[b]? = some Z.obj)
    (hQ : ∀ w', Chg (OneP b) w w' → Q (.returned (.tuple #[tmps.getD 4 undef, tmps.getD 5 undef, V.val])) w') :
    bodyPost Tryz.prog fn Q Exit.ret ⟨tmps, []⟩ (((w.setCell ⟨b, 0, none⟩ (.int .i64 V.kind)).setCell ⟨b, 1, none⟩ (.int .i64 V.num)).setCell ⟨b, 2, none⟩ (sv V.str)).drew := by
  have h1 := val_set hs V
  have c1 := chg_set3 (w := w) (b := b) (.int .i64 V.kind) (.int .i64 V.num) (sv V.str)
  generalize World.setCell _ _ (sv V.str) = W at h1 c1 ⊢
  exact q_ret V h hp (show W.drew.heap[b]? = _ from h1) (hQ _ c1.drew)
end Go.Proofs.YtnbckfkdmkbopaaGreatDoor

set_option autoImplicit false
namespace Go.Proofs.YtnbckfkdmkbopaaGreatDoor
open Go Go.RowKit

abbrev tcells : List Value := [sv [105, 100], .int .i64 1, .bool false, .bool false, sv [97], .int .i64 1, .bool false, .bool false, sv [98], .int .i64 1, .bool false, .bool false, sv [99], .int .i64 3, .bool false, .bool false]
abbrev tobj : Obj := .cells #[sv [105, 100], .int .i64 1, .bool false, .bool false, sv [97], .int .i64 1, .bool false, .bool false, sv [98], .int .i64 1, .bool false, .bool false, sv [99], .int .i64 3, .bool false, .bool false] 78 (0, 0)
abbrev tabV (tb : Nat) : Value := .agg #[sv [116], .slice (some ⟨tb, 0, none⟩) 4 4]
def ThOut (w : World) (e : Ending) (w' : World) : Prop := ∃ tb, e = .returned (tabV tb) ∧ w.heap.size ≤ tb ∧ w'.heap[tb]? = some tobj ∧ Chg NoB w w'
theorem things_any (w : World) : Calls Tryz.prog 8 #[] w (ThOut w) := by
  go_enter Tryz.func8, Tryz.ntmps8
  go_wp2
  refine bodyPost_ret (v := tabV (w.heap.size + 1)) (results_big1 (P := Tryz.prog) rfl _ _ w.heap.size [sv [116], .slice (some ⟨w.heap.size + 1, 0, none⟩) 4 4] _ rfl (range_block ((hal_old (by simp)).trans hal_new)) Tryz.underlying38 rfl (by kernel_rfl)) rfl ?_
  exact ⟨_, rfl, by omega, hal_new' (by simp), ((Chg.refl _ _).alloc _).alloc _⟩
theorem tcell {W : World} {tb : Nat} (h : W.heap[tb]? = some tobj) {j : Nat} {c : Bcol} (hc : cols4[j]? = some c) : c.tab = [116] ∧ W.cell? ⟨tb, j * 4, none⟩ = some (sv c.name) ∧ W.cell? ⟨tb, j * 4 + 1, none⟩ = some (.int .i64 c.ty) := by
  match j, hc with
  | 0, hc => cases hc; exact ⟨rfl, cell_of_row W tb 0 _ _ _ h, cell_of_row W tb 1 _ _ _ h⟩
  | 1, hc => cases hc; exact ⟨rfl, cell_of_row W tb 4 _ _ _ h, cell_of_row W tb 5 _ _ _ h⟩
  | 2, hc => cases hc; exact ⟨rfl, cell_of_row W tb 8 _ _ _ h, cell_of_row W tb 9 _ _ _ h⟩
  | 3, hc => cases hc; exact ⟨rfl, cell_of_row W tb 12 _ _ _ h, cell_of_row W tb 13 _ _ _ h⟩
  | n + 4, hc => simp [cols4] at hc
theorem tabT_of {W : World} {tb : Nat} {F : Nat → Prop} (h : W.heap[tb]? = some tobj) (hF : F tb) : TabT W F cols4 tb := ⟨lt_of_heap h, hF, fun _ _ hc => (tcell h hc).2.2⟩
theorem bcol_one (cs : List Bcol) : ∀ u ∈ bcolCells cs, u.oneCell' = true := by
  intro u hu
  obtain ⟨c, _, hc⟩ := List.mem_flatMap.1 hu
  simp [Bcol.cells] at hc
  rcases hc with rfl | rfl | rfl <;> rfl
theorem chg_mono_no {w w' : World} {G : Nat → Prop} (h : Chg NoB w w') : Chg G w w' := h.mono fun _ h => h.elim
def ScOut (w : World) (e : Ending) (w' : World) : Prop := ∃ ao c, e = .returned (.slice ao 4 c) ∧ BcolsAt w' (fun k => w.heap.size ≤ k) (.slice ao 4 c) cols4 ∧ Chg NoB w w'
structure ScI (w : World) (tb sb : Nat) (j : Nat) (v : Value) (wr : World) : Prop where
  c : Chg NoB w wr
  lo : w.heap.size ≤ tb
  tl : tb < sb
  tab : wr.heap[tb]? = some tobj
  box : wr.heap[sb]? = some (.cells #[sv [116], .slice (some ⟨tb, 0, none⟩) 4 4] 38 (0, 0))
  out : Own 112 3 wr (sb + 1) v j (bcolCells (cols4.take j))
set_option maxRecDepth 100000 in
set_option maxHeartbeats 1000000 in
theorem scope_any (w : World) : Calls Tryz.prog 18 #[] w (ScOut w) := by
  go_enter Tryz.func18, Tryz.ntmps18
  go_wp2_with fail
  refine (things_any w).mono ?_
  rintro e w1 ⟨tb, rfl, hlo, htab, c1⟩
  have HI : Hid (ScI w tb w1.heap.size 0 nilS (w1.alloc (.cells #[sv [116], .slice (some ⟨tb, 0, none⟩) 4 4] 38))) := Lib.hid ⟨c1.alloc _, hlo, lt_of_heap htab, (hal_old (lt_of_heap htab)).trans htab, hal_new, Own.nil _ _ _ _⟩
  clear hlo htab c1
  go_wp2_with fail
  go_loopw [1, 3] (fun v i wr => ∃ j : Nat, i = .int .i64 j ∧ j ≤ 4 ∧ ∃ u, v = u ∧ Hid (ScI w tb w1.heap.size j u wr)) (fun _ i _ => (4 - intOf i).toNat)
  case atStart => exact ⟨0, rfl, by omega, _, rfl, HI⟩
  case round =>
    obtain ⟨j, rfl, hj, u, rfl, HJ⟩ := hrel
    obtain ⟨uo, uc, hu, _⟩ := HJ.out.out.form
    subst hu
    have b1 : wr.cell? ⟨w1.heap.size, 1, none⟩ = some (.slice (some ⟨tb, 0, none⟩) 4 4) := cell_of_row wr _ 1 _ _ _ HJ.out.box
    by_cases hlt : j < 4
    · obtain ⟨c, hc⟩ : ∃ c, cols4[j]? = some c := ⟨_, List.getElem?_eq_getElem (by show j < 4; exact hlt)⟩
      have HS : Hid (∀ V, Chg NoB wr V → V.cell? ⟨w1.heap.size, 1, none⟩ = some (.slice (some ⟨tb, 0, none⟩) 4 4) ∧ V.cell? ⟨tb, j * 4, none⟩ = some (sv c.name) ∧ V.cell? ⟨tb, j * 4 + 1, none⟩ = some (.int .i64 c.ty)) := Lib.hid fun V cV =>
        ⟨cell_of_row V _ 1 _ _ _ (cV.heap HJ.out.box (fun h => h)), (tcell (cV.heap HJ.out.tab (fun h => h)) hc).2⟩
      have HT : Hid (bcolCells (cols4.take (j + 1)) = bcolCells (cols4.take j) ++ [sv [116], sv c.name, .int .i64 c.ty]) := Lib.hid (by
        have ht := (tcell HJ.out.tab hc).1
        rw [List.take_add_one, hc]
        simp [bcolCells, Bcol.cells, ht])
      have hji : (j : Int) < 4 := by omega
      clear hc
      go_wp2_with fail
      refine wp_region_lex (fun V => V.cell? ⟨w1.heap.size, 1, none⟩ = some (.slice (some ⟨tb, 0, none⟩) 4 4) ∧ V.cell? ⟨tb, j * 4, none⟩ = some (sv c.name) ∧ V.cell? ⟨tb, j * 4 + 1, none⟩ = some (.int .i64 c.ty)) 99 [14, 15] [0, 1, 2, 3, 4, 5, 6, 7, 8, 9, 10, 11, 12, 13, 14, 15, 16] (by kernel_rfl) (by kernel_rfl) (HS.out _ (Chg.refl _ _).drew) ?_
      iterate 14
        refine' lex_free (v := _) rfl rfl rfl ?_ (fun _ _ _ h => h) ?_
        rotate_left
        · rintro W ⟨h1, h2, h3⟩
          go_simp
          with_reducible rfl
        try simp only [Act.put, List.setIfInBounds_toArray, List.set_cons_zero, List.set_cons_succ]
      refine lex_op rfl rfl rfl (fun K hK => ?_)
      go_simp
      have W5 : Hid (Chg NoB wr (wr.alloc (.cells #[sv [116], sv c.name, .int .i64 c.ty] 112)).drew) := Lib.hid (((Chg.refl NoB wr).alloc _).drew)
      have B5 : Hid ((wr.alloc (.cells #[sv [116], sv c.name, .int .i64 c.ty] 112)).drew.heap[wr.heap.size]? = some (.cells #[sv [116], sv c.name, .int .i64 c.ty] 112 (0, 0))) := Lib.hid (show (World.alloc _ _).heap[wr.heap.size]? = _ from hal_new)
      refine hK _ _ (fun _ => HS.out _ W5.out) ?_
      clear hK K
      try simp only [Act.put, List.setIfInBounds_toArray, List.set_cons_zero, List.set_cons_succ]
      generalize hW5 : World.drew _ = V5
      rw [show (wr.alloc (.cells #[sv [116], sv c.name, .int .i64 c.ty] 112)).drew = V5 from hW5] at W5 B5
      clear hW5
      have sb := lt_of_heap HJ.out.box
      have s5 := W5.out.size
      have tl := HJ.out.tl
      have lo := HJ.out.lo
      refine lex_op rfl rfl rfl (fun K hK => ?_)
      refine own_wp bcol_ok _ _ rfl (w1.heap.size + 1) _ j (bcolCells (cols4.take j)) rfl (Own.quiet HJ.out.out W5.out) (fun _ => True) _ 1 [sv [116], sv c.name, .int .i64 c.ty] rfl (row_one B5.out trivial) rfl ?_ ?_ ?_ ?_ ?_
      · intro q hq
        simp at hq
        rcases hq with rfl | rfl | rfl <;> rfl
      · unfold maxLen; omega
      · omega
      · omega
      · intro v9 w9 r9 x9 _
        obtain ⟨ao9, c9, rfl, _⟩ := r9.form
        have lo9 : ∀ g, (Value.slice uo j uc).ownBlock = some g → w1.heap.size + 1 ≤ g := HJ.out.out.lo
        have y9 := (chg_mono_no (G := fun g => (Value.slice uo j uc).ownBlock = some g) W5.out).trans x9 (fun _ h => .inl h)
        have HO : Hid (ScI w tb w1.heap.size (j + 1) (.slice ao9 (j + 1) c9) w9) := Lib.hid
          ⟨HJ.out.c.trans y9 (fun g e => .inr (by have := lo9 g e; omega)), HJ.out.lo, HJ.out.tl, y9.heap HJ.out.tab (fun e => by have := lo9 _ e; omega), y9.heap HJ.out.box (fun e => by have := lo9 _ e; omega), by rw [HT.out]; exact r9⟩
        have HS9 : Hid (w9.cell? ⟨w1.heap.size, 1, none⟩ = some (.slice (some ⟨tb, 0, none⟩) 4 4) ∧ w9.cell? ⟨tb, j * 4, none⟩ = some (sv c.name) ∧ w9.cell? ⟨tb, j * 4 + 1, none⟩ = some (.int .i64 c.ty)) := Lib.hid (by
          obtain ⟨q1, q2, q3⟩ := HS.out wr (Chg.refl _ _)
          have k1 := y9.keep w1.heap.size sb (fun e => by have := lo9 _ e; omega)
          have k2 := y9.keep tb (by omega) (fun e => by have := lo9 _ e; omega)
          exact ⟨(cell_of_heap k1).trans q1, (cell_of_heap k2).trans q2, (cell_of_heap k2).trans q3⟩)
        clear r9 x9 y9 lo9
        refine hK _ _ (fun _ => HS9.out) ?_
        clear hK K
        try simp only [Act.put, List.setIfInBounds_toArray, List.set_cons_zero, List.set_cons_succ]
        iterate 1
          refine' lex_free (v := _) rfl rfl rfl ?_ (fun _ _ _ h => h) ?_
          rotate_left
          · rintro W ⟨h1, h2, h3⟩
            go_simp
            with_reducible rfl
          try simp only [Act.put, List.setIfInBounds_toArray, List.set_cons_zero, List.set_cons_succ]
        refine lex_nil ?_
        go_wp2_with fail
        go_round
        case rel => exact ⟨j + 1, by go_num, by omega, _, rfl, HO⟩
        case measure => simp [intOf]; omega
    · obtain rfl : j = 4 := by omega
      go_wp2_with fail
      go_ret
      have lo := HJ.out.lo
      have tl := HJ.out.tl
      exact ⟨uo, uc, rfl, RowAt.mono HJ.out.out.read (fun k hk _ => by omega), HJ.out.c⟩
end Go.Proofs.YtnbckfkdmkbopaaGreatDoor

set_option autoImplicit false
namespace Go.Proofs.YtnbckfkdmkbopaaGreatDoor
open Go Go.RowKit

set_option maxRecDepth 100000 in
set_option maxHeartbeats 4000000 in
theorem deep_any (q : Nat) (x : Ex) (F : Nat → Prop) (b : Nat) (w : World) (hx : x.hgt ≤ 100000) (h : w.heap[q]? = some (.cells (delCells (.slice (some ⟨b, 0, none⟩) 1 1)).toArray 61 (0, 0))) (hv : OneEx w F (.slice (some ⟨b, 0, none⟩) 1 1) x) :
    Calls Tryz.prog 41 #[.pointer (some ⟨q, 0, none⟩)] w fun e w' => e = .returned (.bool (decide (32 < x.hgt))) ∧ Chg NoB w w' := by
  obtain ⟨_, E, e, hb, hF, hr, hxa⟩ := hv
  simp only [Value.slice.injEq, Option.some.injEq, Addr.mk.injEq] at e
  obtain ⟨⟨rfl, _⟩, _⟩ := e
  obtain ⟨z0, z1, z2, z3, z4, z5, z6, z7, z8, z9, z10, z11, z12, z13⟩ := cells14 h
  have HH := Lib.hid h
  have HR := Lib.hid hr
  have HXA := Lib.hid hxa
  clear h hr hxa
  go_enter Tryz.func41, Tryz.ntmps41
  go_wp2
  go_loopw [3, 21] (fun l i wr => l = .slice none 0 0 ∧ i = .int .i64 0 ∧ wr = w) (fun _ _ _ => 0)
  case atStart => exact ⟨rfl, rfl, rfl⟩
  case round =>
    obtain ⟨rfl, rfl, rfl⟩ := hrel
    go_wp2
    go_loopw [3, 34] (fun l i wr' => l = .slice none 0 0 ∧ i = .int .i64 0 ∧ wr' = wr) (fun _ _ _ => 0)
    case atStart => exact ⟨rfl, rfl, rfl⟩
    case round =>
      obtain ⟨rfl, rfl, rfl⟩ := hrel
      go_wp2
      go_loopw [3, 49] (fun l i wr' => l = .slice none 0 0 ∧ i = .int .i64 0 ∧ wr' = wr) (fun _ _ _ => 0)
      case atStart => exact ⟨rfl, rfl, rfl⟩
      case round =>
        obtain ⟨rfl, rfl, rfl⟩ := hrel
        go_wp2
        go_loopw [3, 63] (fun l i wr' => l = .slice none 0 0 ∧ i = .int .i64 0 ∧ wr' = wr) (fun _ _ _ => 0)
        case atStart => exact ⟨rfl, rfl, rfl⟩
        case round =>
          obtain ⟨rfl, rfl, rfl⟩ := hrel
          have HS : Hid (∀ W, Chg NoB wr W → W.cell? ⟨q, 8, none⟩ = some (.slice (some ⟨b, 0, none⟩) 1 1) ∧ W.cell? ⟨q, 9, none⟩ = some (.slice none 0 0) ∧ W.cell? ⟨q, 12, none⟩ = some (.slice none 0 0)) := Lib.hid fun W hW => by
            have h := hW.heap HH.out (fun h => h)
            exact ⟨cell_of_row W q 8 _ _ _ h, cell_of_row W q 9 _ _ _ h, cell_of_row W q 12 _ _ _ h⟩
          go_wp2_with fail
          refine wp_region_lex (fun W => W.cell? ⟨q, 8, none⟩ = some (.slice (some ⟨b, 0, none⟩) 1 1) ∧ W.cell? ⟨q, 9, none⟩ = some (.slice none 0 0) ∧ W.cell? ⟨q, 12, none⟩ = some (.slice none 0 0)) 99 [13] [0, 1, 2, 3, 4, 5, 6, 7, 8, 9, 10, 11, 12, 15, 13, 14] (by kernel_rfl) (by kernel_rfl) (HS.out _ (Chg.refl _ _).drew) ?_
          iterate 14
            refine' lex_free (v := _) rfl rfl rfl ?_ (fun _ _ _ h => h) ?_
            rotate_left
            · rintro W ⟨h8, h9, h12⟩
              go_simp
              with_reducible rfl
            try simp only [Act.put, List.setIfInBounds_toArray, List.set_cons_zero, List.set_cons_succ]
          refine lex_op rfl rfl rfl (fun K hK => ?_)
          go_simp
          have XL : Hid (Chg NoB wr (wr.drew.alloc (.cells #[.slice none 0 0, .slice (some ⟨b, 0, none⟩) 1 1, .slice none 0 0, .slice none 0 0] 27))) := Lib.hid ((Chg.refl NoB wr).drew.alloc _)
          have L0 : Hid ((wr.drew.alloc (.cells #[.slice none 0 0, .slice (some ⟨b, 0, none⟩) 1 1, .slice none 0 0, .slice none 0 0] 27)).heap[wr.heap.size]? = some (.cells #[.slice none 0 0, .slice (some ⟨b, 0, none⟩) 1 1, .slice none 0 0, .slice none 0 0] 27 (0, 0))) := Lib.hid hal_new
          refine hK _ _ (fun _ => HS.out _ XL.out) ?_
          clear hK K
          try simp only [Act.put, List.setIfInBounds_toArray, List.set_cons_zero, List.set_cons_succ]
          iterate 1
            refine' lex_free (v := _) rfl rfl rfl ?_ (fun _ _ _ h => h) ?_
            rotate_left
            · rintro W ⟨h8, h9, h12⟩
              go_simp
              with_reducible rfl
            try simp only [Act.put, List.setIfInBounds_toArray, List.set_cons_zero, List.set_cons_succ]
          refine lex_nil ?_
          go_wp2
          obtain ⟨w0, hw0⟩ : ∃ w0, w0 = wr := ⟨_, rfl⟩
          subst hw0
          go_loopw [88] (fun i W => ∃ j : Nat, i = .int .i64 j ∧ j ≤ 4 ∧ Hid ((2 ≤ j → x.hgt ≤ 32) ∧ Chg NoB w0 W ∧ W.heap[w0.heap.size]? = some (.cells #[.slice none 0 0, .slice (some ⟨b, 0, none⟩) 1 1, .slice none 0 0, .slice none 0 0] 27 (0, 0)))) (fun i _ => (4 - intOf i).toNat)
          case atStart => exact ⟨0, rfl, by omega, Lib.hid ⟨fun h => by omega, XL.out, L0.out⟩⟩
          case round =>
            obtain ⟨j, rfl, hj, HJ⟩ := hrel
            obtain ⟨w5, hw5⟩ : ∃ w5, w5 = wr := ⟨_, rfl⟩
            subst hw5
            rcases (show j = 0 ∨ j = 1 ∨ j = 2 ∨ j = 3 ∨ j = 4 by omega) with rfl | rfl | rfl | rfl | rfl
            · have l0 : w5.cell? ⟨w0.heap.size, 0, none⟩ = some (.slice none 0 0) := cell_of_row _ _ 0 _ _ _ HJ.out.2.2
              go_wp2
              go_loopw [94] (fun i W => i = .int .i64 0 ∧ W = w5) (fun _ _ => 0)
              case atStart => exact ⟨rfl, rfl⟩
              case round =>
                obtain ⟨rfl, rfl⟩ := hrel
                go_wp2
                go_round
                case rel => exact ⟨1, rfl, by omega, Lib.hid ⟨fun h => by omega, HJ.out.2⟩⟩
                case measure => simp [intOf]
            · have l0 : w5.cell? ⟨w0.heap.size, 1, none⟩ = some (.slice (some ⟨b, 0, none⟩) 1 1) := cell_of_row _ _ 1 _ _ _ HJ.out.2.2
              go_wp2
              go_loopw [94] (fun i W => Hid (Chg NoB w5 W) ∧ (i = .int .i64 0 ∨ i = .int .i64 1 ∧ Hid (x.hgt ≤ 32))) (fun i _ => (1 - intOf i).toNat)
              case atStart => exact ⟨Lib.hid (Chg.refl _ _), .inl rfl⟩
              case round =>
                obtain ⟨HC, hi⟩ := hrel
                have XK : Hid (Chg NoB w0 wr) := Lib.hid (HJ.out.2.1.trans HC.out (fun _ h => h.elim))
                rcases hi with rfl | ⟨rfl, H32⟩
                · obtain ⟨a0, a1, a2, a3, a4, a5, a6, a7⟩ := ex_range (range_of_heap (XK.out.keep b hb (fun h => h)) HR.out)
                  have XA : Hid (Chg NoB w0 (wr.alloc E.obj)) := Lib.hid (XK.out.trans ((Chg.refl NoB wr).alloc E.obj) (fun _ h => h.elim))
                  have XB : Hid (Chg NoB w5 (wr.alloc E.obj)) := Lib.hid (HC.out.trans ((Chg.refl NoB wr).alloc E.obj) (fun _ h => h.elim))
                  go_wp2_with fail
                  refine (height_any 100000 x E F _ hx (Nat.le_refl _) (HXA.out.quiet XA.out)).mono ?_
                  rintro e w2 ⟨rfl, hc2⟩
                  have X2 : Hid (Chg NoB w0 w2) := Lib.hid (XA.out.trans hc2 (fun _ h => h.elim))
                  have Y2 : Hid (Chg NoB w5 w2) := Lib.hid (XB.out.trans hc2 (fun _ h => h.elim))
                  clear hc2
                  by_cases h32 : 32 < x.hgt
                  · have hd : (32 : Int) < (x.hgt : Int) := by omega
                    go_wp2
                    go_ret
                    exact ⟨by simp [h32], X2.out⟩
                  · have hd : ¬ (32 : Int) < (x.hgt : Int) := by omega
                    go_wp2
                    simp only [Act.mk.injEq, Array.mk.injEq, List.cons.injEq, and_true, true_and]
                    exact ⟨⟨_, _, _, _, _, _, _, _, _, _, ⟨Y2, .inr ⟨rfl, Lib.hid (by omega)⟩⟩, rfl, rfl, rfl, rfl, rfl, rfl, rfl, rfl, rfl, rfl, rfl⟩, by simp [intOf]⟩
                · go_wp2
                  go_round
                  case rel => exact ⟨2, rfl, by omega, Lib.hid ⟨fun _ => H32.out, XK.out, HC.out.heap HJ.out.2.2 (fun h => h)⟩⟩
                  case measure => simp [intOf]
            · have l0 : w5.cell? ⟨w0.heap.size, 2, none⟩ = some (.slice none 0 0) := cell_of_row _ _ 2 _ _ _ HJ.out.2.2
              go_wp2
              go_loopw [94] (fun i W => i = .int .i64 0 ∧ W = w5) (fun _ _ => 0)
              case atStart => exact ⟨rfl, rfl⟩
              case round =>
                obtain ⟨rfl, rfl⟩ := hrel
                go_wp2
                go_round
                case rel => exact ⟨3, rfl, by omega, Lib.hid ⟨fun h => HJ.out.1 (by omega), HJ.out.2⟩⟩
                case measure => simp [intOf]
            · have l0 : w5.cell? ⟨w0.heap.size, 3, none⟩ = some (.slice none 0 0) := cell_of_row _ _ 3 _ _ _ HJ.out.2.2
              go_wp2
              go_loopw [94] (fun i W => i = .int .i64 0 ∧ W = w5) (fun _ _ => 0)
              case atStart => exact ⟨rfl, rfl⟩
              case round =>
                obtain ⟨rfl, rfl⟩ := hrel
                go_wp2
                go_round
                case rel => exact ⟨4, rfl, by omega, Lib.hid ⟨fun h => HJ.out.1 (by omega), HJ.out.2⟩⟩
                case measure => simp [intOf]
            · have h32 : ¬ 32 < x.hgt := by have := HJ.out.1 (by omega); omega
              go_wp2
              go_ret
              exact ⟨by simp [h32], HJ.out.2.1⟩
end Go.Proofs.YtnbckfkdmkbopaaGreatDoor
