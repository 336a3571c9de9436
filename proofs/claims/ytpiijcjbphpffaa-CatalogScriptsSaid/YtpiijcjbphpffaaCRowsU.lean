/-
  What Rows makes: rows in blocks of their own, that may be written. No condition beyond each lemma's own.
-/
import Derived.Test.YtpiijcjbphpffaaCVals
set_option autoImplicit false
namespace Go.Proofs.Ytpiijcjbphpffaa
open Go Go.RowKit
attribute [local go_sem] field_tab0 field_tab1

/-- a slice's block may be written -/
def Unf (w : World) (u : Value) : Prop := ∀ a n c, u = .slice (some a) n c → 0 < n → ∃ cur t, w.heap[a.block]? = some (.cells cur t (0, 0))
theorem Unf.keep {w w' : World} {u : Value} {G : Nat → Prop} (h : Unf w u) (x : Chg G w w') (hu : ∀ a n c, u = .slice (some a) n c → 0 < n → ¬ G a.block) : Unf w' u := by
  intro a n c he hn
  obtain ⟨cur, t, hb⟩ := h a n c he hn
  exact ⟨cur, t, x.heap hb (hu a n c he hn)⟩
theorem own_unf {T s : Nat} {w : World} {lo : Nat} {v : Value} {n : Nat} {cells : List Value} (h : Own T s w lo v n cells) : Unf w v := by
  intro a m c he hm
  obtain ⟨ao, cap, hv, hp⟩ := h.form
  rw [he] at hv
  simp only [Value.slice.injEq] at hv
  obtain ⟨hv1, rfl, rfl⟩ := hv
  obtain ⟨g, hg, _⟩ := hp hm
  rw [hg] at hv1
  obtain rfl := Option.some.inj hv1
  obtain ⟨cur, hc⟩ := ownsRow_heap h.row (g := g) (by rw [he]; rfl)
  exact ⟨cur, T, hc⟩
theorem unf_lit {w : World} {b n c : Nat} {cur : Array Value} {t : TypeId} (h : w.heap[b]? = some (.cells cur t (0, 0))) : Unf w (.slice (some ⟨b, 0, none⟩) n c) := by
  intro a m d he _
  simp only [Value.slice.injEq, Option.some.injEq] at he
  obtain ⟨rfl, _, _⟩ := he
  exact ⟨cur, t, h⟩
theorem each_block {w : World} {F : Nat → Prop} {rows : List (List Val)} {us : List Value} (h : RowsEach w F rows us) {u : Value} (hu : u ∈ us) {a : Addr} {n c : Nat} (he : u = .slice (some a) n c) (hn : 0 < n) : F a.block := by
  obtain ⟨i, hi, rfl⟩ := List.getElem_of_mem hu
  have hr : rows[i]? = some (rows[i]'(by rw [← h.1]; exact hi)) := List.getElem?_eq_getElem _
  obtain ⟨ao, cap, h1, h2⟩ := (h.2 i _ _ hr (List.getElem?_eq_getElem hi)).1
  rw [he] at h1
  simp only [Value.slice.injEq] at h1
  obtain ⟨h3, h4, _⟩ := h1
  obtain ⟨b, o, h5, _, hF, _⟩ := h2 (by omega)
  rw [h5] at h3
  obtain rfl := Option.some.inj h3
  exact hF
/-- a list of rows that a call is making, each in a block that may be written -/
def Rwu (w : World) (B : Nat) (s : Value) (rows : List (List Val)) : Prop := ∃ us, Own 53 1 w B s rows.length us ∧ RowsEach w (fun g => B ≤ g ∧ s.ownBlock ≠ some g) rows us ∧ ∀ u ∈ us, Unf w u
theorem Rwu.nil (w : World) (B : Nat) : Rwu w B (.slice none 0 0) [] := ⟨[], Own.nil _ _ _ _, ⟨rfl, fun i r u hr _ => by simp at hr⟩, fun u hu => by simp at hu⟩
theorem Rwu.rws {w : World} {B : Nat} {s : Value} {rows : List (List Val)} (h : Rwu w B s rows) : Rws w B s rows := by
  obtain ⟨us, h1, h2, _⟩ := h
  exact ⟨us, h1, h2⟩
theorem Rwu.chg {w w' : World} {G : Nat → Prop} {B : Nat} {s : Value} {rows : List (List Val)} (h : Rwu w B s rows) (c : Chg G w w') (hG : ∀ g, B ≤ g → ¬ G g) : Rwu w' B s rows := by
  obtain ⟨us, h1, h2, h3⟩ := h
  exact ⟨us, h1.chg c (fun g hg => hG g (h1.lo g hg)), h2.chg c (fun k hk => hG k hk.1), fun u hu => (h3 u hu).keep c (fun a n d he hn => hG _ (each_block h2 hu he hn).1)⟩
theorem Rwu.quiet {w w' : World} {B : Nat} {s : Value} {rows : List (List Val)} (h : Rwu w B s rows) (c : Chg (fun _ => False) w w') : Rwu w' B s rows := h.chg c (fun _ _ h => h)
theorem Rwu.form {w : World} {B : Nat} {s : Value} {rows : List (List Val)} (h : Rwu w B s rows) {n : Nat} (hn : rows.length = n) : ∃ ao c, s = .slice ao n c := h.rws.form hn
theorem Rwu.own {w : World} {B : Nat} {s : Value} {rows : List (List Val)} (h : Rwu w B s rows) {g : Nat} (hg : s.ownBlock = some g) : B ≤ g ∧ g < w.heap.size := h.rws.own hg
/-- one row more -/
theorem rwu_wp {o : Oper} {a : Act} {K : Act → World → Prop} {Q : Exit → Act → World → Prop} {w : World} (s x : Operand) (ho : o.op = .call { callee := .builtin .append, args := #[s, x], argTypes := #[40, 40] })
    (B : Nat) (v : Value) (rows : List (List Val)) (n : Nat) (hn : rows.length = n) (hs : a.eval s = v) (h : Rwu w B v rows) (blk : Nat) (u : Value) (r : List Val) (hx : a.eval x = .slice (some ⟨blk, 0, none⟩) 1 1) (hb : w.heap[blk]? = some (.cells #[u] 53 (0, 0)))
    (hu : ValsAt w (fun g => B ≤ g ∧ v.ownBlock ≠ some g) u r) (hcap : CapOk u) (hfree : Unf w u) (hlen : n ≤ 1000000) (hlo : B ≤ w.heap.size)
    (k : ∀ ao c w', Rwu w' B (.slice ao (n + 1) c) (rows ++ [r]) → Chg (fun g => v.ownBlock = some g) w w' → (∀ g, (Value.slice ao (n + 1) c).ownBlock = some g → v.ownBlock = some g ∨ g = w.heap.size) → K (a.put o.dst (.slice ao (n + 1) c)) w') : o.wp Try.prog a w K Q := by
  subst hn
  obtain ⟨us, h1, h2, h3⟩ := h
  refine own_wp row_ok s x ho B v rows.length us hs h1 (fun _ => True) _ 1 [u] hx (row_one hb trivial) rfl ?_ (by unfold maxLen; omega) (by omega) hlo ?_
  · intro y hy
    obtain ⟨ao, c, rfl, _⟩ := hu
    simp at hy
    subst hy
    rfl
  · intro v' w' o1 c1 hat
    obtain ⟨ao, c, rfl, _⟩ := o1.form
    refine k ao c w' ⟨us ++ [u], by rw [List.length_append]; exact o1, ?_, fun y hy => ?_⟩ c1 hat
    · refine ((h2.mono (G := fun g => (B ≤ g ∧ v.ownBlock ≠ some g) ∧ g < w.heap.size) (fun g hg hl => ⟨hg, hl⟩)).app (RowAt.mono hu (fun g hg hl => ⟨hg, hl⟩)) hcap).chg c1 (fun g hg h => hg.1.2 h) |>.mono ?_
      intro g hg _
      refine ⟨hg.1.1, fun h5 => ?_⟩
      rcases hat g h5 with h | h
      · exact hg.1.2 h
      · have := hg.2; omega
    · rcases List.mem_append.1 hy with hy | hy
      · exact (h3 y hy).keep c1 (fun a n d he hn h => (each_block h2 hy he hn).2 h)
      · simp at hy
        subst hy
        refine hfree.keep c1 (fun a n d he hn h => ?_)
        obtain ⟨ao', cap', hq1, hq2⟩ := hu
        rw [he] at hq1
        simp only [Value.slice.injEq] at hq1
        obtain ⟨hq3, hq4, _⟩ := hq1
        obtain ⟨b, of, hq5, _, hF, _⟩ := hq2 (by omega)
        rw [hq5] at hq3
        obtain rfl := Option.some.inj hq3
        exact hF.2 h
theorem rwu_app {ops : Array Oper} {rest : List Oper} {o : Oper} {a : Act} {Q : Exit → Act → World → Prop} {w : World} (hgd : o.guard = none) (s x : Operand) (ho : o.op = .call { callee := .builtin .append, args := #[s, x], argTypes := #[40, 40] })
    (B : Nat) (v : Value) (rows : List (List Val)) (n : Nat) (hn : rows.length = n) (hs : a.eval s = v) (h : Rwu w B v rows) (blk : Nat) (u : Value) (r : List Val) (hx : a.eval x = .slice (some ⟨blk, 0, none⟩) 1 1) (hb : w.heap[blk]? = some (.cells #[u] 53 (0, 0)))
    (hu : ValsAt w (fun g => B ≤ g ∧ v.ownBlock ≠ some g) u r) (hcap : CapOk u) (hfree : Unf w u) (hlen : n ≤ 1000000) (hlo : B ≤ w.heap.size)
    (k : ∀ ao c w', Rwu w' B (.slice ao (n + 1) c) (rows ++ [r]) → Chg (fun g => v.ownBlock = some g) w w' → (∀ g, (Value.slice ao (n + 1) c).ownBlock = some g → v.ownBlock = some g ∨ g = w.heap.size) → wpList Try.prog ops Q rest (a.put o.dst (.slice ao (n + 1) c)) w') : wpList Try.prog ops Q (o :: rest) a w :=
  wpList_plain hgd fun _ hK => rwu_wp s x ho B v rows n hn hs h blk u r hx hb hu hcap hfree hlen hlo fun ao c w' x y z => hK _ _ (k ao c w' x y z)
set_option maxRecDepth 100000 in
set_option maxHeartbeats 2000000 in
theorem rows_free (r : Nat) (F : Nat → Prop) (C : Cat) (w : World) (h : CatAt w r F C) :
    Calls Try.prog 19 #[.pointer (some ⟨r, 0, none⟩)] w fun e w' => ∃ v B, e = .returned v ∧ w.heap.size ≤ B ∧ Rwu w' B v C.rows ∧ Chg (fun _ => False) w w' := by
  have HH := Lib.hid h
  have hok := h.ok
  have h16 : C.tables.length ≤ 16 := by
    have := hok.t16
    unfold Cat.tables
    rw [(byNameT_perm _).length_eq]; exact this
  have HTF := Lib.hid (fun k t (ht : C.tables[k]? = some t) => ((mayB_len (hok.tm t ((byNameT_perm C.T).mem_iff.1 (List.mem_of_getElem? ht)))).2.1 : t.cols.length ≤ 16))
  have HMD := Lib.hid (fun n => hok.made_len n)
  have HR := Lib.hid (show C.rows = C.tables.map tabRow ++ C.tables.flatMap fun t => (C.made t.name).map ixRow from rfl)
  clear h hok
  generalize hts : C.tables = ts at *
  have HTS := Lib.hid hts
  clear hts
  go_enter Try.func19, Try.ntmps19
  go_wp2_with fail
  refine (tables_any r F C w HH.out).mono ?_
  rw [HTS.out]
  rintro e w2 ⟨_, rfl, ⟨us0, he0, ao, cap, rfl, hp0⟩, x2⟩
  have HT := Lib.hid (show TabsAt w2 _ (.slice ao ts.length cap) ts from ⟨us0, he0, ao, cap, rfl, hp0⟩)
  have X2 := Lib.hid x2
  clear he0 hp0 x2
  go_wp2
  go_loopw [3, 16] (fun s i wr => ∃ k : Nat, k ≤ ts.length ∧ i = .int .i64 k ∧ Hid (Rwu wr w2.heap.size s ((ts.take k).map tabRow)) ∧ Hid (Chg (fun _ => False) w2 wr)) (fun _ i _ => ts.length - (intOf i).toNat)
  case atStart => exact ⟨0, Nat.zero_le _, rfl, Lib.hid (Rwu.nil _ _), Lib.hid (Chg.refl _ _)⟩
  case round =>
    obtain ⟨k, hk, rfl, HW, HX⟩ := hrel
    obtain ⟨wo, rfl⟩ : ∃ wo : World, wo = wr := ⟨_, rfl⟩
    have hln : ((ts.take k).map tabRow).length = k := by rw [List.length_map, List.length_take, Nat.min_eq_left hk]
    have HLN := Lib.hid hln
    obtain ⟨ao1, cap1, rfl⟩ := HW.out.form hln
    clear hln
    by_cases hlt : k < ts.length
    · obtain ⟨t, ht⟩ : ∃ t, ts[k]? = some t := ⟨_, List.getElem?_eq_getElem hlt⟩
      obtain ⟨b, o, a1, k1, rfl, hbl, _, q0, q1, hcs⟩ := TabsAt.tab (TabsAt.quiet HT.out HX.out) ht
      have htc := HTF.out k t ht
      have HC := Lib.hid hcs; have HTK := Lib.hid ht
      have hwr : w2.heap.size ≤ wo.heap.size := HX.out.size
      clear hcs ht
      go_wp2
      obtain ⟨W4, hW4⟩ : ∃ W4, W4 = wo.alloc (.cells #[.string t.name, .slice a1 t.cols.length k1] 27) := ⟨_, rfl⟩
      rw [← hW4]
      have b4 : W4.heap[wo.heap.size]? = some (.cells #[.string t.name, .slice a1 t.cols.length k1] 27 (0, 0)) := by subst hW4; exact hal_new
      have x4 : Chg (fun _ => False) wo W4 := by subst hW4; exact (Chg.refl _ _).alloc _
      have z4 : W4.heap.size = wo.heap.size + 1 := by subst hW4; simp
      have B4 := Lib.hid b4; have X4 := Lib.hid x4; have Z4 := Lib.hid z4
      clear hW4 b4 x4 z4 q0 q1
      have hS : ∀ W, Chg (fun _ => False) W4 W → W.cell? ⟨wo.heap.size, 0, none⟩ = some (.string t.name) := fun W hW => cell_of_row W _ 0 _ _ _ (hW.heap B4.out (fun h => h))
      have HS := Lib.hid hS
      clear hS
      refine wp_region_lex (fun w' => w'.cell? ⟨wo.heap.size, 0, none⟩ = some (.string t.name)) 5 [0, 3, 4, 5] [1, 2, 0, 3, 4, 5] (by kernel_rfl) (by kernel_rfl) (HS.out _ (Chg.refl _ _).drew) ?_
      iterate 2
        refine' lex_free (v := _) rfl rfl rfl ?_ (fun _ _ _ h => h) ?_
        rotate_left
        · rintro W hW1
          go_simp
          with_reducible rfl
        try simp only [Act.put, List.setIfInBounds_toArray, List.set_cons_zero, List.set_cons_succ]
      refine lex_op rfl rfl rfl (fun K hK => ?_)
      go_simp
      refine (truth_any true W4.drew).mono ?_
      rintro e w5 ⟨rfl, x5⟩
      have X5 := Lib.hid ((Chg.refl (fun _ => False) W4).drew.trans x5 (fun _ h => h.elim))
      clear x5
      refine hK _ _ (fun _ => HS.out _ X5.out) ?_
      clear hK K
      try simp only [Act.put, List.setIfInBounds_toArray, List.set_cons_zero, List.set_cons_succ]
      refine lex_op rfl rfl rfl (fun K hK => ?_)
      go_simp
      refine (text_any t.name w5).mono ?_
      rintro e w6 ⟨rfl, x6⟩
      have X6 := Lib.hid (X5.out.trans x6 (fun _ h => h.elim))
      clear x6
      refine hK _ _ (fun _ => HS.out _ X6.out) ?_
      clear hK K
      try simp only [Act.put, List.setIfInBounds_toArray, List.set_cons_zero, List.set_cons_succ]
      refine lex_op rfl rfl rfl (fun K hK => ?_)
      go_simp
      refine hK _ _ (fun _ => HS.out _ (X6.out.alloc _)) ?_
      clear hK K
      try simp only [Act.put, List.setIfInBounds_toArray, List.set_cons_zero, List.set_cons_succ]
      refine lex_op rfl rfl rfl (fun K hK => ?_)
      go_simp
      refine hK _ _ (fun h => absurd rfl h) ?_
      clear hK K
      try simp only [Act.put, List.setIfInBounds_toArray, List.set_cons_zero, List.set_cons_succ]
      refine lex_nil ?_
      obtain ⟨W7, hW7⟩ : ∃ W7, W7 = w6.alloc (.cells #[.int .i64 2, .int .i64 1, .string ⟨#[]⟩, .int .i64 3, .int .i64 0, .string t.name] 62) := ⟨_, rfl⟩
      rw [← hW7]
      have x7 : Chg (fun _ => False) W4 W7 := by subst hW7; exact X6.out.alloc _
      have o7 : Own 62 3 W7 W4.heap.size (.slice (some ⟨w6.heap.size, 0, none⟩) 2 2) 2 (valCells [truthV true, textV t.name]) := by
        subst hW7
        exact own_new w6 W4.heap.size _ rfl (by omega) X6.out.size
      have X7 := Lib.hid x7; have O7 := Lib.hid o7
      have b7 := x7.heap B4.out (fun h => h)
      have m1 := cell_of_row W7 wo.heap.size 1 _ _ _ b7
      clear x7 o7 b7 hW7
      go_wp2
      go_loopw [6, 28] (fun s i wr => ∃ j : Nat, j ≤ t.cols.length ∧ i = .int .i64 j ∧ Hid (Own 62 3 wr W4.heap.size s (2 + 4 * j) (valCells ([truthV true, textV t.name] ++ (t.cols.take j).flatMap colVals))) ∧ Hid (Chg (fun _ => False) W4 wr)) (fun _ i _ => t.cols.length - (intOf i).toNat)
      case atStart => exact ⟨0, Nat.zero_le _, rfl, Lib.hid (by simpa using O7.out), X7⟩
      case round =>
        obtain ⟨j, hj, rfl, HQ, HXQ⟩ := hrel
        obtain ⟨aq, cq, rfl, haq⟩ := HQ.out.form
        clear haq
        by_cases hjt : j < t.cols.length
        · obtain ⟨x, hx⟩ : ∃ x, t.cols[j]? = some x := ⟨_, List.getElem?_eq_getElem hjt⟩
          obtain ⟨b2, o2, rfl, hb2, _, p0, p1, p2, p3⟩ := ColsAt.col (w := wr) rfl (RowAt.quiet HC.out (X4.out.trans HXQ.out (fun _ h => h.elim))) hx
          have HXJ := Lib.hid hx
          have hw4 : W4.heap.size ≤ wr.heap.size := HXQ.out.size
          clear hx
          go_wp2
          obtain ⟨W8, hW8⟩ : ∃ W8, W8 = wr.alloc (.cells #[.string x.name, .int .i64 x.ty, .bool x.nn, .bool x.un] 30) := ⟨_, rfl⟩
          rw [← hW8]
          have B8 : Hid (W8.heap[wr.heap.size]? = some (.cells #[.string x.name, .int .i64 x.ty, .bool x.nn, .bool x.un] 30 (0, 0))) := Lib.hid (by subst hW8; exact hal_new)
          have X8 : Hid (Chg (fun _ => False) wr W8) := Lib.hid (by subst hW8; exact (Chg.refl _ _).alloc _)
          clear hW8 p0 p1 p2 p3
          have hS : ∀ W, Chg (fun _ => False) W8 W → W.cell? ⟨wr.heap.size, 0, none⟩ = some (.string x.name) ∧ W.cell? ⟨wr.heap.size, 1, none⟩ = some (.int .i64 x.ty) ∧ W.cell? ⟨wr.heap.size, 2, none⟩ = some (.bool x.nn) ∧ W.cell? ⟨wr.heap.size, 3, none⟩ = some (.bool x.un) := fun W hW => by
            have a := hW.heap B8.out (fun h => h)
            exact ⟨cell_of_row W _ 0 _ _ _ a, cell_of_row W _ 1 _ _ _ a, cell_of_row W _ 2 _ _ _ a, cell_of_row W _ 3 _ _ _ a⟩
          have HS8 := Lib.hid hS
          clear hS
          refine wp_region_lex (fun w' => w'.cell? ⟨wr.heap.size, 0, none⟩ = some (.string x.name) ∧ w'.cell? ⟨wr.heap.size, 1, none⟩ = some (.int .i64 x.ty) ∧ w'.cell? ⟨wr.heap.size, 2, none⟩ = some (.bool x.nn) ∧ w'.cell? ⟨wr.heap.size, 3, none⟩ = some (.bool x.un)) 15 [3, 6, 9, 12, 13, 14, 15] [0, 1, 2, 4, 5, 7, 8, 10, 11, 3, 6, 9, 12, 13, 14, 15] (by kernel_rfl) (by kernel_rfl) (HS8.out _ (Chg.refl _ _).drew) ?_
          iterate 9
            refine' lex_free (v := _) rfl rfl rfl ?_ (fun _ _ _ h => h) ?_
            rotate_left
            · rintro W ⟨hW1, hW2, hW3, hW4⟩
              go_simp
              with_reducible rfl
            try simp only [Act.put, List.setIfInBounds_toArray, List.set_cons_zero, List.set_cons_succ]
          refine lex_op rfl rfl rfl (fun K hK => ?_)
          go_simp
          refine (text_any x.name W8.drew).mono ?_
          rintro e y1 ⟨rfl, x⟩
          have Y1 := Lib.hid ((Chg.refl (fun _ => False) W8).drew.trans x (fun _ h => h.elim))
          clear x
          refine hK _ _ (fun _ => HS8.out _ Y1.out) ?_
          clear hK K
          try simp only [Act.put, List.setIfInBounds_toArray, List.set_cons_zero, List.set_cons_succ]
          refine lex_op rfl rfl rfl (fun K hK => ?_)
          go_simp
          refine (number_any x.ty y1).mono ?_
          rintro e y2 ⟨rfl, x⟩
          have Y2 := Lib.hid (Y1.out.trans x (fun _ h => h.elim))
          clear x
          refine hK _ _ (fun _ => HS8.out _ Y2.out) ?_
          clear hK K
          try simp only [Act.put, List.setIfInBounds_toArray, List.set_cons_zero, List.set_cons_succ]
          refine lex_op rfl rfl rfl (fun K hK => ?_)
          go_simp
          refine (truth_any x.nn y2).mono ?_
          rintro e y3 ⟨rfl, x⟩
          have Y3 := Lib.hid (Y2.out.trans x (fun _ h => h.elim))
          clear x
          refine hK _ _ (fun _ => HS8.out _ Y3.out) ?_
          clear hK K
          try simp only [Act.put, List.setIfInBounds_toArray, List.set_cons_zero, List.set_cons_succ]
          refine lex_op rfl rfl rfl (fun K hK => ?_)
          go_simp
          refine (truth_any x.un y3).mono ?_
          rintro e y4 ⟨rfl, x⟩
          have Y4 := Lib.hid (Y3.out.trans x (fun _ h => h.elim))
          clear x
          refine hK _ _ (fun _ => HS8.out _ Y4.out) ?_
          clear hK K
          try simp only [Act.put, List.setIfInBounds_toArray, List.set_cons_zero, List.set_cons_succ]
          refine lex_op rfl rfl rfl (fun K hK => ?_)
          go_simp
          have hy4 : W4.heap.size ≤ y4.heap.size := Nat.le_trans hw4 (Nat.le_trans X8.out.size Y4.out.size)
          have HQ4 := Lib.hid (HQ.out.quiet ((X8.out.trans Y4.out (fun _ h => h.elim)).alloc (.cells (valCells (colVals x)).toArray 62)))
          refine hK _ _ (fun _ => HS8.out _ (Y4.out.alloc _)) ?_
          clear hK K
          try simp only [Act.put, List.setIfInBounds_toArray, List.set_cons_zero, List.set_cons_succ]
          refine lex_op rfl rfl rfl (fun K hK => ?_)
          refine own_wp val_ok _ _ rfl W4.heap.size _ (2 + 4 * j) _ rfl HQ4.out (fun _ => True) (.slice (some ⟨y4.heap.size, 0, none⟩) 4 4) 4 (valCells (colVals x)) rfl ⟨_, _, rfl, fun _ => ⟨y4.heap.size, 0, rfl, by simp, trivial, range_block hal_new⟩⟩ rfl (valCells_one _) (by unfold maxLen; omega) (by omega) (by simp; omega) ?_
          intro v9 w9 o9 c9 hat9
          obtain ⟨a9, k9, rfl, _⟩ := o9.form
          have hne : ¬ (Value.slice aq (2 + 4 * j) cq).ownBlock = some wr.heap.size := fun h => by have := HQ.out.lt h; omega
          have a := c9.heap ((Y4.out.alloc (.cells (valCells (colVals x)).toArray 62)).heap B8.out (fun h => h)) hne
          have C9 := Lib.hid (((HXQ.out.trans (X8.out.trans (Y4.out.alloc (.cells (valCells (colVals x)).toArray 62)) (fun _ h => h.elim)) (fun _ h => h.elim)).mono (G := fun k => W4.heap.size ≤ k) (fun _ h => h.elim)).trans c9 (fun k h => .inl (HQ.out.lo k h)) |>.mono (G := fun _ => False) (fun k hk => .inr hk))
          have O9 : Hid (Own 62 3 w9 W4.heap.size (.slice a9 (2 + 4 * j + 4) k9) (2 + 4 * (j + 1)) (valCells ([truthV true, textV t.name] ++ (t.cols.take (j + 1)).flatMap colVals))) := Lib.hid (by
            rw [List.take_add_one, HXJ.out, Option.toList_some, List.flatMap_append, ← List.append_assoc, valCells_app, show 2 + 4 * (j + 1) = 2 + 4 * j + 4 by omega]
            simpa using o9)
          refine hK _ _ (fun _ => ⟨cell_of_row w9 _ 0 _ _ _ a, cell_of_row w9 _ 1 _ _ _ a, cell_of_row w9 _ 2 _ _ _ a, cell_of_row w9 _ 3 _ _ _ a⟩) ?_
          clear hK K
          try simp only [Act.put, List.setIfInBounds_toArray, List.set_cons_zero, List.set_cons_succ]
          clear a o9 c9 hat9 hne
          refine lex_op rfl rfl rfl (fun K hK => ?_)
          go_simp
          refine hK _ _ (fun h => absurd rfl h) ?_
          clear hK K
          try simp only [Act.put, List.setIfInBounds_toArray, List.set_cons_zero, List.set_cons_succ]
          refine lex_nil ?_
          go_wp2
          go_roundw
          case rel => exact ⟨j + 1, by omega, by go_num, O9, C9⟩
          case measure => simp [intOf]; omega
        · have HJ := Lib.hid (show j = t.cols.length by omega)
          have hw4 : W4.heap.size ≤ wr.heap.size := HXQ.out.size
          have hz4 := Z4.out
          go_wp2_with (at_builtin; refine rwu_app rfl _ _ rfl w2.heap.size _ ((ts.take k).map tabRow) k HLN.out rfl (Rwu.quiet HW.out ((X4.out.trans HXQ.out (fun _ h => h.elim)).alloc _)) _ (.slice aq (2 + 4 * j) cq) (tabRow t) rfl hal_new ?_ HQ.out.capOk ?_ ?_ ?_ ?_)
          · have hr := (HQ.out.read.quiet ((Chg.refl (fun _ => False) wr).alloc (.cells #[.slice aq (2 + 4 * j) cq] 53))).mono (G := fun g => w2.heap.size ≤ g ∧ (Value.slice ao1 k cap1).ownBlock ≠ some g) (fun g hg _ => ⟨by omega, fun h => by have := HW.out.own h; omega⟩)
            have e1 : 2 + 4 * j = (tabRow t).length := by
              unfold tabRow
              rw [List.length_append, flatMap_len colVals 4 _ (fun _ _ => rfl), ← HJ.out]
              simp; omega
            have e2 : [truthV true, textV t.name] ++ (t.cols.take j).flatMap colVals = tabRow t := by unfold tabRow; rw [HJ.out, List.take_length]
            rw [e2] at hr
            unfold ValsAt
            rw [← e1]
            exact hr
          · exact (own_unf HQ.out).keep ((Chg.refl (fun _ => False) wr).alloc _) (fun _ _ _ _ _ h => h)
          · omega
          · simp; omega
          · intro ao5 c5 w5 r5 x5 _
            have HW5 : Hid (Rwu w5 w2.heap.size (.slice ao5 (k + 1) c5) ((ts.take (k + 1)).map tabRow)) := Lib.hid (by
              rw [List.take_add_one, HTK.out, Option.toList_some, List.map_append, List.map_take]
              exact r5)
            have HX5 := Lib.hid (((((HX.out.trans X4.out (fun _ h => h.elim)).trans HXQ.out (fun _ h => h.elim)).alloc (.cells #[.slice aq (2 + 4 * j) cq] 53)).mono (G := fun k => w2.heap.size ≤ k) (fun _ h => h.elim)).trans x5 (fun g h => .inl (HW.out.own h).1) |>.mono (G := fun _ => False) (fun k hk => .inr hk))
            clear r5 x5
            go_wp2
            go_roundw
            case rel => exact ⟨k + 1, by omega, by go_num, HW5, HX5⟩
            case measure => simp [intOf]; omega
    · have HK := Lib.hid (show k = ts.length by omega)
      go_wp2_with fail
      refine (tables_any r F C wo (CatAt.quiet HH.out (X2.out.trans HX.out (fun _ h => h.elim)))).mono ?_
      rw [HTS.out]
      rintro e w3 ⟨_, rfl, ⟨us3, he3, ao3, cap3, rfl, hp3⟩, x3⟩
      have HT3 := Lib.hid (show TabsAt w3 _ (.slice ao3 ts.length cap3) ts from ⟨us3, he3, ao3, cap3, rfl, hp3⟩)
      have HW3 : Hid (Rwu w3 w2.heap.size (.slice ao1 k cap1) (ts.map tabRow)) := Lib.hid (by
        have := HW.out.quiet x3
        rw [HK.out, List.take_length] at this
        rw [HK.out]
        exact this)
      have X3 := Lib.hid (HX.out.trans x3 (fun _ h => h.elim))
      have HN3 := Lib.hid (fun g (hg : wo.heap.size ≤ g) (h : (Value.slice ao1 k cap1).ownBlock = some g) => (by have := HW.out.own h; omega : False))
      have HCL := Lib.hid (CatAt.mono (G := fun k => k < w.heap.size) (CatAt.mono HH.out (G := fun k => F k ∧ k < w.heap.size) (fun g hg hl => ⟨hg, hl⟩)) (fun g hg _ => hg.2))
      have HZ3 : Hid (wo.heap.size ≤ w3.heap.size) := Lib.hid x3.size
      clear he3 hp3 x3
      go_wp2
      go_loopw [3, 56] (fun s i wr => ∃ (j n : Nat), j ≤ ts.length ∧ i = .int .i64 j ∧ n ≤ 16 + 16 * j ∧ Hid (Rwu wr w2.heap.size s (ts.map tabRow ++ (ts.take j).flatMap fun t => (C.made t.name).map ixRow)) ∧ Hid ((ts.map tabRow ++ (ts.take j).flatMap fun t => (C.made t.name).map ixRow).length = n) ∧ Hid (Chg (fun g => (Value.slice ao1 k cap1).ownBlock = some g) w3 wr) ∧ Hid (∀ g, s.ownBlock = some g → (Value.slice ao1 k cap1).ownBlock = some g ∨ w3.heap.size ≤ g)) (fun _ i _ => ts.length - (intOf i).toNat)
      case atStart => exact ⟨0, ts.length, Nat.zero_le _, rfl, by omega, Lib.hid (by simpa using HW3.out), Lib.hid (by simp), Lib.hid (Chg.refl _ _), Lib.hid (fun g hg => .inl hg)⟩
      case round =>
        obtain ⟨j, n, hj, rfl, hn, HQ, HLQ, HXQ, HOQ⟩ := hrel
        obtain ⟨wi, rfl⟩ : ∃ wo : World, wo = wr := ⟨_, rfl⟩
        obtain ⟨aq, cq, rfl⟩ := HQ.out.form HLQ.out
        by_cases hjt : j < ts.length
        · obtain ⟨t, ht⟩ : ∃ t, ts[j]? = some t := ⟨_, List.getElem?_eq_getElem hjt⟩
          obtain ⟨b, o, a1, k1, rfl, hbl, _, q0, q1, _⟩ := TabsAt.tab (TabsAt.chg HT3.out HXQ.out HN3.out) ht
          have HTJ := Lib.hid ht
          have hml := HMD.out t.name
          clear ht
          go_wp2_with fail
          refine (made_any r (fun k => k < w.heap.size) C t.name _ (CatAt.quiet (CatAt.chg (CatAt.quiet HCL.out (X2.out.trans X3.out (fun _ h => h.elim))) HXQ.out (fun g hg h => by have := (HW.out.own h).1; have := X2.out.size; omega)) ((Chg.refl _ _).alloc _))).mono ?_
          rintro e w5 ⟨_, rfl, ⟨a5, k5, rfl, p5⟩, x5⟩
          have HM5 := Lib.hid (show IxsAt w5 _ (.slice a5 (C.made t.name).length k5) (C.made t.name) from ⟨a5, k5, rfl, p5⟩)
          have X5 := Lib.hid (((Chg.refl (fun _ => False) wi).alloc (.cells #[.string t.name, .slice a1 t.cols.length k1] 27)).trans x5 (fun _ h => h.elim))
          clear p5 x5 q0 q1
          generalize hmd : C.made t.name = ms at *
          have HMS := Lib.hid hmd
          clear hmd
          have hi5 : wi.heap.size ≤ w5.heap.size := X5.out.size
          go_wp2
          go_loopw [3, 65] (fun s i wr => ∃ l : Nat, l ≤ ms.length ∧ i = .int .i64 l ∧ Hid (Rwu wr w2.heap.size s ((ts.map tabRow ++ (ts.take j).flatMap fun t => (C.made t.name).map ixRow) ++ (ms.take l).map ixRow)) ∧ Hid (Chg (fun g => (Value.slice aq n cq).ownBlock = some g) w5 wr) ∧ Hid (∀ g, s.ownBlock = some g → (Value.slice aq n cq).ownBlock = some g ∨ w5.heap.size ≤ g)) (fun _ i _ => ms.length - (intOf i).toNat)
          case atStart => exact ⟨0, Nat.zero_le _, rfl, Lib.hid (by simpa using HQ.out.quiet X5.out), Lib.hid (Chg.refl _ _), Lib.hid (fun g hg => .inl hg)⟩
          case round =>
            obtain ⟨l, hl, rfl, HV, HXV, HOV⟩ := hrel
            have hlen : ((ts.map tabRow ++ (ts.take j).flatMap fun t => (C.made t.name).map ixRow) ++ (ms.take l).map ixRow).length = n + l := by
              rw [List.length_append, HLQ.out, List.length_map, List.length_take, Nat.min_eq_left hl]
            have HLV := Lib.hid hlen
            obtain ⟨av, cv, rfl⟩ := HV.out.form hlen
            clear hlen
            by_cases hlm : l < ms.length
            · obtain ⟨x, hx⟩ : ∃ x, ms[l]? = some x := ⟨_, List.getElem?_eq_getElem hlm⟩
              obtain ⟨b2, o2, rfl, hb2, _, p0, p1, p2, p3⟩ := IxsAt.ix (w := wr) rfl (RowAt.chg HM5.out HXV.out (fun g hg h => by have := HQ.out.own h; simp at hg; omega)) hx
              have HXL := Lib.hid hx
              have hwr : w5.heap.size ≤ wr.heap.size := HXV.out.size
              clear hx
              go_wp2
              obtain ⟨W8, hW8⟩ : ∃ W8, W8 = wr.alloc (.cells #[.string x.name, .string x.tab, .int .i64 x.col, .bool x.hash] 64) := ⟨_, rfl⟩
              rw [← hW8]
              have B8 : Hid (W8.heap[wr.heap.size]? = some (.cells #[.string x.name, .string x.tab, .int .i64 x.col, .bool x.hash] 64 (0, 0))) := Lib.hid (by subst hW8; exact hal_new)
              have X8 : Hid (Chg (fun _ => False) wr W8) := Lib.hid (by subst hW8; exact (Chg.refl _ _).alloc _)
              clear hW8 p0 p1 p2 p3
              have hS : ∀ W, Chg (fun _ => False) W8 W → W.cell? ⟨wr.heap.size, 0, none⟩ = some (.string x.name) ∧ W.cell? ⟨wr.heap.size, 1, none⟩ = some (.string x.tab) ∧ W.cell? ⟨wr.heap.size, 2, none⟩ = some (.int .i64 x.col) ∧ W.cell? ⟨wr.heap.size, 3, none⟩ = some (.bool x.hash) := fun W hW => by
                have a := hW.heap B8.out (fun h => h)
                exact ⟨cell_of_row W _ 0 _ _ _ a, cell_of_row W _ 1 _ _ _ a, cell_of_row W _ 2 _ _ _ a, cell_of_row W _ 3 _ _ _ a⟩
              have HS8 := Lib.hid hS
              clear hS
              refine wp_region_lex (fun w' => w'.cell? ⟨wr.heap.size, 0, none⟩ = some (.string x.name) ∧ w'.cell? ⟨wr.heap.size, 1, none⟩ = some (.string x.tab) ∧ w'.cell? ⟨wr.heap.size, 2, none⟩ = some (.int .i64 x.col) ∧ w'.cell? ⟨wr.heap.size, 3, none⟩ = some (.bool x.hash)) 17 [1, 4, 7, 10, 13, 14, 15, 16, 17] [0, 2, 3, 5, 6, 8, 9, 11, 12, 1, 4, 7, 10, 13, 14, 15, 16, 17] (by kernel_rfl) (by kernel_rfl) (HS8.out _ (Chg.refl _ _).drew) ?_
              iterate 9
                refine' lex_free (v := _) rfl rfl rfl ?_ (fun _ _ _ h => h) ?_
                rotate_left
                · rintro W ⟨hW1, hW2, hW3, hW4⟩
                  go_simp
                  with_reducible rfl
                try simp only [Act.put, List.setIfInBounds_toArray, List.set_cons_zero, List.set_cons_succ]
              refine lex_op rfl rfl rfl (fun K hK => ?_)
              go_simp
              refine (truth_any false W8.drew).mono ?_
              rintro e y0 ⟨rfl, x⟩
              have Y0 := Lib.hid ((Chg.refl (fun _ => False) W8).drew.trans x (fun _ h => h.elim))
              clear x
              refine hK _ _ (fun _ => HS8.out _ Y0.out) ?_
              clear hK K
              try simp only [Act.put, List.setIfInBounds_toArray, List.set_cons_zero, List.set_cons_succ]
              refine lex_op rfl rfl rfl (fun K hK => ?_)
              go_simp
              refine (text_any x.name y0).mono ?_
              rintro e y1 ⟨rfl, x⟩
              have Y1 := Lib.hid (Y0.out.trans x (fun _ h => h.elim))
              clear x
              refine hK _ _ (fun _ => HS8.out _ Y1.out) ?_
              clear hK K
              try simp only [Act.put, List.setIfInBounds_toArray, List.set_cons_zero, List.set_cons_succ]
              refine lex_op rfl rfl rfl (fun K hK => ?_)
              go_simp
              refine (text_any x.tab y1).mono ?_
              rintro e y2 ⟨rfl, x⟩
              have Y2 := Lib.hid (Y1.out.trans x (fun _ h => h.elim))
              clear x
              refine hK _ _ (fun _ => HS8.out _ Y2.out) ?_
              clear hK K
              try simp only [Act.put, List.setIfInBounds_toArray, List.set_cons_zero, List.set_cons_succ]
              refine lex_op rfl rfl rfl (fun K hK => ?_)
              go_simp
              refine (number_any x.col y2).mono ?_
              rintro e y3 ⟨rfl, x⟩
              have Y3 := Lib.hid (Y2.out.trans x (fun _ h => h.elim))
              clear x
              refine hK _ _ (fun _ => HS8.out _ Y3.out) ?_
              clear hK K
              try simp only [Act.put, List.setIfInBounds_toArray, List.set_cons_zero, List.set_cons_succ]
              refine lex_op rfl rfl rfl (fun K hK => ?_)
              go_simp
              refine (truth_any x.hash y3).mono ?_
              rintro e y4 ⟨rfl, x⟩
              have Y4 := Lib.hid (Y3.out.trans x (fun _ h => h.elim))
              clear x
              refine hK _ _ (fun _ => HS8.out _ Y4.out) ?_
              clear hK K
              try simp only [Act.put, List.setIfInBounds_toArray, List.set_cons_zero, List.set_cons_succ]
              refine lex_op rfl rfl rfl (fun K hK => ?_)
              go_simp
              refine hK _ _ (fun _ => HS8.out _ (Y4.out.alloc _)) ?_
              clear hK K
              try simp only [Act.put, List.setIfInBounds_toArray, List.set_cons_zero, List.set_cons_succ]
              refine lex_op rfl rfl rfl (fun K hK => ?_)
              go_simp
              refine hK _ _ (fun _ => HS8.out _ ((Y4.out.alloc _).alloc _)) ?_
              clear hK K
              try simp only [Act.put, List.setIfInBounds_toArray, List.set_cons_zero, List.set_cons_succ]
              have hy4 : wr.heap.size < y4.heap.size := Nat.lt_of_lt_of_le (lt_of_heap B8.out) Y4.out.size
              have hww : w2.heap.size ≤ wr.heap.size := Nat.le_trans X3.out.size (Nat.le_trans HXQ.out.size (Nat.le_trans X5.out.size HXV.out.size))
              have hov := fun g (hg : (Value.slice av (n + l) cv).ownBlock = some g) => HV.out.own hg
              have hR : Rwu ((y4.alloc (.cells (valCells (ixRow x)).toArray 62)).alloc (.cells #[.slice (some ⟨y4.heap.size, 0, none⟩) 5 5] 53)) w2.heap.size (.slice av (n + l) cv) _ := HV.out.quiet ((X8.out.trans Y4.out (fun _ h => h.elim)).alloc _ |>.alloc _)
              refine lex_op rfl rfl rfl (fun K hK => ?_)
              refine rwu_wp _ _ rfl w2.heap.size _ _ (n + l) HLV.out rfl hR (y4.heap.size + 1) (.slice (some ⟨y4.heap.size, 0, none⟩) 5 5) (ixRow x) rfl (hal_new' (by simp)) ⟨_, 5, rfl, fun _ => ⟨y4.heap.size, 0, rfl, by simp; omega, ⟨by omega, fun h => by have := hov _ h; omega⟩, range_block (by rw [hal_old (by simp)]; exact hal_new)⟩⟩ (capOk_lit _ _ _ (Nat.le_refl _)) (unf_lit (b := y4.heap.size) (by rw [hal_old (by simp)]; exact hal_new)) (by omega) (by simp; omega) ?_
              intro ao9 c9 w9 r9 x9 hat
              have a := x9.heap (((Y4.out.alloc (.cells (valCells (ixRow x)).toArray 62)).alloc (.cells #[.slice (some ⟨y4.heap.size, 0, none⟩) 5 5] 53)).heap B8.out (fun h => h)) (fun h => by have := hov _ h; omega)
              have HX9 := Lib.hid (X8.out.trans ((Y4.out.alloc (.cells (valCells (ixRow x)).toArray 62)).alloc (.cells #[.slice (some ⟨y4.heap.size, 0, none⟩) 5 5] 53)) (fun _ h => h.elim))
              have HXV9 := Lib.hid ((HXV.out.trans HX9.out (fun _ h => h.elim)).trans x9 (fun g h => by
                rcases HOV.out g h with h | h
                · exact .inl h
                · exact .inr h))
              have HOV9 := Lib.hid (fun g (hg : (Value.slice ao9 (n + l + 1) c9).ownBlock = some g) => (by
                rcases hat g hg with h | h
                · exact HOV.out g h
                · right
                  simp at h
                  omega : (Value.slice aq n cq).ownBlock = some g ∨ w5.heap.size ≤ g))
              have HR9 : Hid (Rwu w9 w2.heap.size (.slice ao9 (n + l + 1) c9) ((ts.map tabRow ++ (ts.take j).flatMap fun t => (C.made t.name).map ixRow) ++ (ms.take (l + 1)).map ixRow)) := Lib.hid (by
                rw [List.take_add_one, HXL.out, Option.toList_some, List.map_append, ← List.append_assoc]
                exact r9)
              refine hK _ _ (fun _ => ⟨cell_of_row w9 _ 0 _ _ _ a, cell_of_row w9 _ 1 _ _ _ a, cell_of_row w9 _ 2 _ _ _ a, cell_of_row w9 _ 3 _ _ _ a⟩) ?_
              clear hK K
              try simp only [Act.put, List.setIfInBounds_toArray, List.set_cons_zero, List.set_cons_succ]
              clear a r9 x9 hat hR hov
              refine lex_op rfl rfl rfl (fun K hK => ?_)
              go_simp
              refine hK _ _ (fun h => absurd rfl h) ?_
              clear hK K
              try simp only [Act.put, List.setIfInBounds_toArray, List.set_cons_zero, List.set_cons_succ]
              refine lex_nil ?_
              go_wp2
              go_roundw
              case rel => exact ⟨l + 1, by omega, by go_num, HR9, HXV9, HOV9⟩
              case measure => simp [intOf]; omega
            · have HL := Lib.hid (show l = ms.length by omega)
              have hsz : w3.heap.size ≤ w5.heap.size := Nat.le_trans HXQ.out.size hi5
              go_wp2
              go_roundw
              case rel =>
                refine ⟨j + 1, n + l, by omega, by go_num, by omega, Lib.hid ?_, Lib.hid ?_, Lib.hid ?_, Lib.hid ?_⟩
                · have := HV.out
                  rw [HL.out, List.take_length, ← HMS.out] at this
                  rw [List.take_add_one, HTJ.out, Option.toList_some, List.flatMap_append, ← List.append_assoc, HL.out, ← HMS.out]
                  simpa using this
                · have := HLV.out
                  rw [HL.out, List.take_length, ← HMS.out] at this
                  rw [List.take_add_one, HTJ.out, Option.toList_some, List.flatMap_append, ← List.append_assoc, HL.out, ← HMS.out]
                  simpa using this
                · refine (HXQ.out.trans X5.out (fun _ h => h.elim)).trans HXV.out (fun g h => ?_)
                  exact HOQ.out g h
                · intro g hg
                  rcases HOV.out g hg with h | h
                  · exact HOQ.out g h
                  · exact .inr (by omega)
              case measure => simp [intOf]; omega
        · have HJ := Lib.hid (show j = ts.length by omega)
          go_wp2
          go_ret
          have hq := HQ.out
          rw [HJ.out, List.take_length] at hq
          rw [HR.out]
          exact ⟨_, w2.heap.size, rfl, X2.out.size, hq, (((X2.out.trans X3.out (fun _ h => h.elim)).mono (G := fun k => w2.heap.size ≤ k) (fun _ h => h.elim)).trans HXQ.out (fun g h => .inl (HW.out.own h).1)).mono (fun k hk => .inr (by have := X2.out.size; omega))⟩
end Go.Proofs.Ytpiijcjbphpffaa
