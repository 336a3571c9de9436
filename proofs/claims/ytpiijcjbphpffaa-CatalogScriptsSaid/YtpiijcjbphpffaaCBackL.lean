/-
  CatalogBack in plain Lean: a catalog's rows, turned round, are read as a catalog that tells the same. No condition beyond each lemma's own.
-/
import Derived.Test.YtpiijcjbphpffaaCReadL
import Derived.Test.YtpiijcjbphpffaaCAwake
set_option autoImplicit false
namespace Go.Proofs.Ytpiijcjbphpffaa
open Go Go.RowKit

/-- so many indexes of a table as may be -/
def Cat.bud (C : Cat) : Prop := ∀ n, (uniqOf n (colsOf C.T n)).length + (C.I.filter fun x => x.tab == n).length ≤ 16
theorem made_len (C : Cat) (n : ByteArray) : (C.made n).length = (C.I.filter fun x => x.tab == n).length := by unfold Cat.made; exact (byName_perm _).length_eq
theorem bud_empty : Cat.empty.bud := fun n => by simp [Cat.empty, colsOf, tfind, uniqOf, uniqTo]
theorem colsOf_app (T : List Tab) (t : Tab) (n : ByteArray) : colsOf (T ++ [t]) n = if (tfind T n).isSome then colsOf T n else if t.name == n then t.cols else [] := by
  unfold colsOf
  rw [tfind_app]
  cases h : tfind T n with
  | some s => simp
  | none => cases h2 : t.name == n <;> simp
theorem uniqOf_len (n : ByteArray) (cs : List Col) : (uniqOf n cs).length ≤ cs.length := uniqTo_len n cs cs.length
theorem Cat.bud.addT {C : Cat} (h : C.bud) (ok : C.ok) (t : Tab) : (C.addT t).bud := by
  unfold Cat.addT
  split
  · rename_i h0
    intro n
    show (uniqOf n (colsOf (C.T ++ [t]) n)).length + _ ≤ 16
    rw [colsOf_app]
    split
    · exact h n
    · rename_i hs
      have hn : tfind C.T n = none := by
        cases hh : tfind C.T n with
        | none => rfl
        | some s => rw [hh] at hs; simp at hs
      have hI : (C.I.filter fun x => x.tab == n) = [] := by
        rw [List.filter_eq_nil_iff]
        intro x hx hb
        obtain ⟨_, s, hs, _⟩ := ok.im x hx
        rw [beq_eq hb, hn] at hs
        cases hs
      rw [show (C.I.filter fun x => x.tab == n).length = 0 by rw [hI]; rfl]
      split
      · have := uniqOf_len n t.cols
        have hm : mayB t.name t.cols = true := by
          unfold Cat.addTR at h0
          split at h0
          · assumption
          · omega
        have := (mayB_len hm).2.1
        omega
      · simp [uniqOf, uniqTo]
  · exact h
theorem Cat.bud.addI {C : Cat} (h : C.bud) (n t c : ByteArray) (b : Bool) : (C.addI n t c b).bud := by
  unfold Cat.addI
  split
  · rename_i h0
    intro m
    show (uniqOf m (colsOf C.T m)).length + ((C.I ++ [_]).filter fun x : Ix => x.tab == m).length ≤ 16
    rw [List.filter_append, List.length_append]
    have hm := h m
    by_cases e : m = t
    · subst e
      have h16 : (C.indexes m).length < 16 := by
        unfold Cat.addIR at h0
        split at h0
        · split at h0
          · omega
          · split at h0
            · omega
            · omega
        · omega
      unfold Cat.indexes at h16
      rw [List.length_append, made_len] at h16
      have h1 := List.length_filter_le (fun x : Ix => x.tab == m) [⟨n, m, idxOf (colsOf C.T m) c, b⟩]
      simp at h1
      omega
    · have : ([⟨n, t, idxOf (colsOf C.T t) c, b⟩] : List Ix).filter (fun x => x.tab == m) = [] := by simp [beq_ne (fun x => e x.symm)]
      rw [this]
      simpa using hm
  · exact h
/-! reading what Rows wrote -/
theorem truth_num (b : Bool) : ((truthV b).num == 1) = b := by cases b <;> rfl
theorem take_truth (b : Bool) (l : List Val) : (Rd.mk (truthV b :: l) false).take 2 = (truthV b, ⟨l, false⟩) := by
  unfold Rd.take
  cases b <;> rfl
theorem take_text (s : ByteArray) (l : List Val) : (Rd.mk (textV s :: l) false).take 3 = (textV s, ⟨l, false⟩) := rfl
theorem take_num (n : Int) (l : List Val) : (Rd.mk (numV n :: l) false).take 1 = (numV n, ⟨l, false⟩) := by
  unfold Rd.take
  simp only [numV, if_true]
  rfl
def ixRd (x : Ix) : Rd := ⟨[textV x.name, textV x.tab, numV x.col, truthV x.hash], false⟩
theorem ixRow_step (s : Cat × List Rd) (x : Ix) : tabStep s (ixRow x) = some (s.1, s.2 ++ [ixRd x]) := by
  unfold tabStep ixRow
  simp only [take_truth]
  rw [if_neg (by decide)]
  rfl
theorem ixRows_fold : ∀ (l : List Ix) (C : Cat) (L : List Rd), foldO tabStep (C, L) (l.map ixRow) = some (C, L ++ l.map ixRd)
  | [], C, L => by simp [foldO]
  | x :: l, C, L => by
    rw [List.map_cons]
    show (match tabStep (C, L) (ixRow x) with | some s' => foldO tabStep s' (l.map ixRow) | none => none) = _
    rw [ixRow_step]
    simp only
    rw [ixRows_fold l C (L ++ [ixRd x])]
    simp
theorem col_read (x : Col) (l : List Val) : (Rd.mk (colVals x ++ l) false).col = (x, ⟨l, false⟩) := by
  unfold Rd.col colVals
  simp only [List.cons_append, List.nil_append, take_text, take_num, take_truth, truth_num]
  rfl
theorem cols_read : ∀ cs : List Col, (Rd.mk (cs.flatMap colVals) false).cols = (cs, ⟨[], false⟩)
  | [] => cols_nil rfl
  | x :: cs => by
    have h : (Rd.mk ((x :: cs).flatMap colVals) false).l.length ≠ 0 := by simp [colVals]
    rw [cols_cons h, List.flatMap_cons, col_read, cols_read cs]
theorem tabRow_step (s : Cat × List Rd) (t : Tab) (h : s.1.addTR t = 0) : tabStep s (tabRow t) = some (s.1.addT t, s.2) := by
  unfold tabStep tabRow
  simp only [List.cons_append, List.nil_append, take_truth, take_text, cols_read]
  rw [if_pos (by rfl), if_pos ⟨trivial, h⟩]
  rfl
theorem tabRow_no (s : Cat × List Rd) (t : Tab) (h : s.1.addTR t ≠ 0) : tabStep s (tabRow t) = none := by
  unfold tabStep tabRow
  simp only [List.cons_append, List.nil_append, take_truth, take_text, cols_read]
  rw [if_pos (by rfl), if_neg (fun hh => h hh.2)]
theorem foldO_cons {α β : Type} (f : α → β → Option α) (s : α) (x : β) (l : List β) : foldO f s (x :: l) = match f s x with
    | some s' => foldO f s' l
    | none => none := rfl
theorem tabs_fold : ∀ (ts : List Tab) (C : Cat) (L : List Rd), C.T.length + ts.length ≤ 16 → ((C.T ++ ts).map fun t => t.name).Nodup → (∀ t ∈ ts, mayB t.name t.cols = true) → foldO tabStep (C, L) (ts.map tabRow) = some (⟨C.T ++ ts, C.I⟩, L)
  | [], C, L, _, _, _ => by simp [foldO]
  | t :: ts, C, L, h1, h2, h3 => by
    have hn : tfind C.T t.name = none := by
      unfold tfind
      rw [List.find?_eq_none]
      intro s hs he
      rw [List.map_append, List.nodup_append] at h2
      exact h2.2.2 s.name (List.mem_map.2 ⟨s, hs, rfl⟩) t.name (by simp) (beq_eq he)
    simp only [List.length_cons] at h1
    have h0 : C.addTR t = 0 := by
      unfold Cat.addTR
      rw [h3 t (by simp), hn]
      simp only [if_true, Option.isSome_none, Bool.false_eq_true, if_false]
      rw [if_neg (by omega)]
    have hC : C.addT t = ⟨C.T ++ [t], C.I⟩ := by unfold Cat.addT; rw [h0, if_pos rfl]
    rw [List.map_cons, foldO_cons, tabRow_step (C, L) t h0]
    simp only
    rw [hC, tabs_fold ts ⟨C.T ++ [t], C.I⟩ L (by simp; omega) (by simpa using h2) (fun s hs => h3 s (by simp [hs]))]
    simp
/-- a column found by its own name -/
theorem idxOf_self {cs : List Col} (h : colsOk cs cs.length = true) {k : Nat} {x : Col} (hx : cs[k]? = some x) : idxOf cs x.name = k := by
  refine idxOf_hit ?_ hx (beq_self _)
  intro j c hj hc
  have ho := colsOk_at h hx
  unfold colOk at ho
  simp only [Bool.and_eq_true, Bool.not_eq_true'] at ho
  have := ho.1.1.2
  rw [List.any_eq_false] at this
  have hm : c ∈ cs.take k := by
    refine List.mem_of_getElem? (i := j) ?_
    rw [List.getElem?_take, if_pos hj]; exact hc
  simpa using this c hm
theorem ixRd_step {D : Cat} {x : Ix} {t : Tab} (hn : nameB x.name = true) (ht : tfind D.T x.tab = some t) (hm : colsOk t.cols t.cols.length = true) (h0 : 0 ≤ x.col) (h1 : x.col < t.cols.length) (hi : ifind D.I x.name = none) (h16 : (D.indexes x.tab).length < 16) :
    ixStep D (ixRd x) = some ⟨D.T, D.I ++ [x]⟩ := by
  obtain ⟨c, hc⟩ : ∃ c : Nat, x.col = c := ⟨x.col.toNat, by omega⟩
  have hcl : c < t.cols.length := by omega
  have hx : t.cols[c]? = some t.cols[c] := List.getElem?_eq_getElem hcl
  have hcols : colsOf D.T x.tab = t.cols := by unfold colsOf; rw [ht]
  have hidx : idxOf t.cols t.cols[c].name = c := idxOf_self hm hx
  have hR : D.addIR x.name x.tab t.cols[c].name = 0 := by
    unfold Cat.addIR
    rw [hn, hi, hcols, hidx]
    simp only [if_true, Option.isSome_none, Bool.false_or, decide_eq_true_eq]
    rw [if_neg (by omega), if_neg (by omega)]
  unfold ixStep ixRd
  simp only [take_text, take_num, take_truth]
  change (if True ∧ (0 : Nat) = 0 ∧ (tfind D.T x.tab).isSome = true ∧ 0 ≤ x.col ∧ x.col < ((colsOf D.T x.tab).length : Int) ∧ D.addIR x.name x.tab ((colsOf D.T x.tab)[x.col.toNat]?.getD ⟨⟨#[]⟩, 0, false, false⟩).name = 0 then
    some (D.addI x.name x.tab ((colsOf D.T x.tab)[x.col.toNat]?.getD ⟨⟨#[]⟩, 0, false, false⟩).name ((truthV x.hash).num == 1)) else none) = _
  have e : (colsOf D.T x.tab)[x.col.toNat]?.getD ⟨⟨#[]⟩, 0, false, false⟩ = t.cols[c] := by rw [hcols, hc, show ((c : Nat) : Int).toNat = c from rfl, hx]; rfl
  rw [e, if_pos ⟨trivial, rfl, by rw [ht]; rfl, h0, by rw [hcols]; exact h1, hR⟩]
  have ht2 := truth_num x.hash
  unfold Cat.addI
  rw [hR, if_pos rfl, hcols, hidx, ← hc, ht2]
theorem ixs_fold : ∀ (l : List Ix) (D : Cat), (∀ x ∈ l, nameB x.name = true ∧ ∃ t, tfind D.T x.tab = some t ∧ colsOk t.cols t.cols.length = true ∧ 0 ≤ x.col ∧ x.col < t.cols.length) → ((D.I ++ l).map fun x => x.name).Nodup →
    (∀ n, (uniqOf n (colsOf D.T n)).length + ((D.I ++ l).filter fun x => x.tab == n).length ≤ 16) → foldO ixStep D (l.map ixRd) = some ⟨D.T, D.I ++ l⟩
  | [], D, _, _, _ => by simp [foldO]
  | x :: l, D, h1, h2, h3 => by
    obtain ⟨hn, t, ht, hm, h0, hl⟩ := h1 x (by simp)
    have hi : ifind D.I x.name = none := by
      unfold ifind
      rw [List.find?_eq_none]
      intro s hs he
      rw [List.map_append, List.nodup_append] at h2
      exact h2.2.2 s.name (List.mem_map.2 ⟨s, hs, rfl⟩) x.name (by simp) (beq_eq he)
    have h16 : (D.indexes x.tab).length < 16 := by
      have := h3 x.tab
      unfold Cat.indexes
      rw [List.length_append, made_len]
      rw [List.filter_append, List.filter_cons, if_pos (beq_self _)] at this
      simp at this
      omega
    rw [List.map_cons, foldO_cons, ixRd_step hn ht hm h0 hl hi h16]
    simp only
    rw [ixs_fold l ⟨D.T, D.I ++ [x]⟩ (fun y hy => h1 y (by simp [hy])) (by simpa using h2) (by simpa using h3)]
    simp
/-! a catalog whose lists hold the same, in whatever order -/
theorem tfind_perm {T T' : List Tab} (hp : T.Perm T') (hn : (T.map fun t => t.name).Nodup) (k : ByteArray) : tfind T k = tfind T' k := by
  have hn' : (T'.map fun t => t.name).Nodup := (hp.map _).nodup_iff.1 hn
  cases h : tfind T k with
  | some t =>
    have := tfind_of_mem hn' (hp.mem_iff.1 (tfind_mem h))
    rw [tfind_name h] at this
    exact this.symm
  | none =>
    cases h' : tfind T' k with
    | none => rfl
    | some t =>
      have := tfind_of_mem hn (hp.mem_iff.2 (tfind_mem h'))
      rw [tfind_name h', h] at this
      cases this
structure Like (C D : Cat) : Prop where
  t : D.T.Perm C.T
  i : D.I.Perm C.I
theorem Like.cols {C D : Cat} (h : Like C D) (ok : C.ok) (n : ByteArray) : colsOf D.T n = colsOf C.T n := by
  unfold colsOf
  rw [tfind_perm h.t ((h.t.map _).nodup_iff.2 ok.tn) n]
theorem Like.made {C D : Cat} (h : Like C D) (ok : C.ok) (n : ByteArray) : D.made n = C.made n := by
  have hp : (D.I.filter fun x => x.tab == n).Perm (C.I.filter fun x => x.tab == n) := h.i.filter _
  unfold Cat.made
  refine rises_eq (f := fun x : Ix => x.name) (((byName_perm _).trans hp).trans (byName_perm _).symm) ?_ (byName_rises _) (byName_rises _)
  have : ((C.I.filter fun x => x.tab == n).map fun x => x.name).Nodup := (List.filter_sublist.map _).nodup ok.inn
  exact (((byName_perm _).trans hp).map _).nodup_iff.2 this
theorem Like.indexes {C D : Cat} (h : Like C D) (ok : C.ok) (n : ByteArray) : D.indexes n = C.indexes n := by
  unfold Cat.indexes
  rw [h.cols ok, h.made ok]
theorem Like.tables {C D : Cat} (h : Like C D) (ok : C.ok) : D.tables = C.tables := by
  unfold Cat.tables
  refine rises_eq (f := fun x : Tab => x.name) (((byNameT_perm _).trans h.t).trans (byNameT_perm _).symm) ?_ (byNameT_rises _) (byNameT_rises _)
  exact (((byNameT_perm _).trans h.t).map _).nodup_iff.2 ok.tn
theorem Like.rows {C D : Cat} (h : Like C D) (ok : C.ok) : D.rows = C.rows := by
  unfold Cat.rows
  rw [h.tables ok]
  congr 1
  congr 1
  funext t
  rw [h.made ok]
/-- all made indexes, table by table -/
def Cat.ixs (C : Cat) : List Ix := C.tables.flatMap fun t => C.made t.name
theorem Cat.rows_eq (C : Cat) : C.rows = C.tables.map tabRow ++ C.ixs.map ixRow := by
  unfold Cat.rows Cat.ixs
  rw [List.map_flatMap]
theorem fm_congr {α β : Type} {f g : α → List β} : ∀ {l : List α}, (∀ x ∈ l, f x = g x) → l.flatMap f = l.flatMap g
  | [], _ => rfl
  | x :: l, h => by rw [List.flatMap_cons, List.flatMap_cons, h x (by simp), fm_congr (fun y hy => h y (by simp [hy]))]
theorem fm_perm {α β : Type} {f g : α → List β} : ∀ {l : List α}, (∀ x ∈ l, (f x).Perm (g x)) → (l.flatMap f).Perm (l.flatMap g)
  | [], _ => List.Perm.refl _
  | x :: l, h => by
    rw [List.flatMap_cons, List.flatMap_cons]
    exact (h x (by simp)).append (fm_perm (fun y hy => h y (by simp [hy])))
theorem parts_perm : ∀ (T : List Tab) (l : List Ix), (T.map fun t => t.name).Nodup → (∀ x ∈ l, ∃ t ∈ T, t.name = x.tab) → (T.flatMap fun t => l.filter fun x => x.tab == t.name).Perm l
  | [], l, _, h => by
    cases l with
    | nil => exact List.Perm.refl _
    | cons x l => obtain ⟨t, ht, _⟩ := h x (by simp); simp at ht
  | t :: T, l, hn, h => by
    rw [List.map_cons, List.nodup_cons] at hn
    rw [List.flatMap_cons]
    have hrest : (T.flatMap fun s => l.filter fun x => x.tab == s.name) = T.flatMap fun s => (l.filter fun x => !(x.tab == t.name)).filter fun x => x.tab == s.name := by
      refine fm_congr fun s hs => ?_
      rw [List.filter_filter]
      apply List.filter_congr
      intro x _
      cases hx : x.tab == s.name with
      | false => simp
      | true =>
        have hne : x.tab ≠ t.name := fun e => hn.1 (by rw [← e, beq_eq hx]; exact List.mem_map.2 ⟨s, hs, rfl⟩)
        simp [beq_ne hne]
    rw [hrest]
    have ih := parts_perm T (l.filter fun x => !(x.tab == t.name)) hn.2 (fun x hx => by
      obtain ⟨s, hs, he⟩ := h x (List.mem_filter.1 hx).1
      rcases List.mem_cons.1 hs with rfl | hs
      · have := (List.mem_filter.1 hx).2
        rw [← he, beq_self] at this
        simp at this
      · exact ⟨s, hs, he⟩)
    exact (ih.append_left _).trans (List.filter_append_perm _ l)
theorem ixs_perm {C : Cat} (ok : C.ok) : C.ixs.Perm C.I := by
  have h1 : C.ixs.Perm (C.T.flatMap fun t => C.I.filter fun x => x.tab == t.name) := by
    unfold Cat.ixs Cat.tables
    refine (List.Perm.flatMap_right _ (byNameT_perm C.T)).trans ?_
    exact fm_perm fun t _ => by unfold Cat.made; exact byName_perm _
  refine h1.trans (parts_perm C.T C.I ok.tn fun x hx => ?_)
  obtain ⟨_, t, ht, _⟩ := ok.im x hx
  exact ⟨t, tfind_mem ht, tfind_name ht⟩
def Cat.turned (C : Cat) : Cat := ⟨C.tables.reverse, C.ixs.reverse⟩
theorem turned_like {C : Cat} (ok : C.ok) : Like C C.turned := ⟨(List.reverse_perm _).trans (byNameT_perm _), (List.reverse_perm _).trans (ixs_perm ok)⟩
theorem fold_turned {C : Cat} (ok : C.ok) : foldO tabStep (Cat.empty, []) C.rows.reverse = some (⟨C.tables.reverse, []⟩, C.ixs.reverse.map ixRd) := by
  rw [C.rows_eq, List.reverse_append, ← List.map_reverse, ← List.map_reverse, foldO_app, ixRows_fold]
  simp only [List.nil_append]
  rw [tabs_fold C.tables.reverse Cat.empty]
  · simp [Cat.empty]
  · unfold Cat.tables
    rw [List.length_reverse, (byNameT_perm _).length_eq]
    have := ok.t16
    show 0 + _ ≤ 16
    omega
  · show (([] ++ C.tables.reverse).map fun t : Tab => t.name).Nodup
    rw [List.nil_append]
    exact (((List.reverse_perm _).trans (byNameT_perm C.T)).map _).nodup_iff.2 ok.tn
  · intro t ht
    exact ok.tm t ((byNameT_perm C.T).mem_iff.1 (List.mem_reverse.1 ht))
theorem read_turned {C : Cat} (ok : C.ok) (hb : C.bud) : readC C.rows.reverse = some C.turned := by
  unfold readC
  rw [fold_turned ok]
  simp only
  have hT : ∀ n, tfind C.tables.reverse n = tfind C.T n := fun n => tfind_perm ((List.reverse_perm _).trans (byNameT_perm C.T)) ((((List.reverse_perm _).trans (byNameT_perm C.T)).map _).nodup_iff.2 ok.tn) n
  have hI : C.ixs.reverse.Perm C.I := (List.reverse_perm _).trans (ixs_perm ok)
  rw [ixs_fold C.ixs.reverse ⟨C.tables.reverse, []⟩]
  · simp [Cat.turned]
  · intro x hx
    obtain ⟨h1, t, h2, h3, h4⟩ := ok.im x (hI.mem_iff.1 hx)
    exact ⟨h1, t, by rw [show (Cat.mk C.tables.reverse []).T = C.tables.reverse from rfl, hT]; exact h2, (mayB_len (ok.tm t (tfind_mem h2))).2.2.2, h3, h4⟩
  · show (([] ++ C.ixs.reverse).map fun x : Ix => x.name).Nodup
    rw [List.nil_append]
    exact (hI.map _).nodup_iff.2 ok.inn
  · intro n
    show (uniqOf n (colsOf C.tables.reverse n)).length + (([] ++ C.ixs.reverse).filter fun x : Ix => x.tab == n).length ≤ 16
    rw [List.nil_append, (hI.filter _).length_eq]
    have := hb n
    unfold colsOf at this ⊢
    rw [hT]
    exact this
theorem read_twice {C : Cat} (ok : C.ok) {row : List Val} (h : C.rows[0]? = some row) : readC (C.rows.reverse ++ [row]) = none := by
  unfold readC
  rw [foldO_app, fold_turned ok]
  simp only
  have : ∃ t, C.tables[0]? = some t ∧ row = tabRow t := by
    rw [C.rows_eq] at h
    cases ht : C.tables with
    | nil =>
      have : C.ixs = [] := by unfold Cat.ixs; rw [ht]; rfl
      rw [ht, this] at h
      simp at h
    | cons t l =>
      rw [ht] at h
      simp at h
      exact ⟨t, by simp, h.symm⟩
  obtain ⟨t, ht, rfl⟩ := this
  have hmem : t ∈ C.tables := List.mem_of_getElem? ht
  have hmT : t ∈ C.T := (byNameT_perm C.T).mem_iff.1 hmem
  rw [foldO_cons, tabRow_no]
  have hf : tfind C.tables.reverse t.name = some t := by
    refine tfind_of_mem ?_ (List.mem_reverse.2 hmem)
    exact (((List.reverse_perm _).trans (byNameT_perm C.T)).map _).nodup_iff.2 ok.tn
  unfold Cat.addTR
  rw [ok.tm t hmT]
  simp only [if_true, hf, Option.isSome_some]
  decide
end Go.Proofs.Ytpiijcjbphpffaa
