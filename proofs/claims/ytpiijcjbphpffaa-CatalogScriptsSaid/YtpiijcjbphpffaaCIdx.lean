/-
  What Indexes does. No condition beyond each lemma's own.
-/
import Derived.Test.YtpiijcjbphpffaaCMade
import Derived.Test.YtpiijcjbphpffaaCTabAt
set_option autoImplicit false
namespace Go.Proofs.Ytpiijcjbphpffaa
open Go Go.RowKit

attribute [local go_sem] field_tab0 field_tab1
/-- a table's name, a dot, a column's -/
def dotted (t n : ByteArray) : ByteArray := t ++ ⟨#[46]⟩ ++ n
def uniqTo (t : ByteArray) (cs : List Col) (k : Nat) : List Ix := ((cs.take k).zipIdx.filter fun p => p.1.un).map fun p => ⟨dotted t p.1.name, t, (p.2 : Int), false⟩
def uniqOf (t : ByteArray) (cs : List Col) : List Ix := uniqTo t cs cs.length
def Cat.indexes (C : Cat) (t : ByteArray) : List Ix := uniqOf t (colsOf C.T t) ++ C.made t
theorem uniqTo_succ {t : ByteArray} {cs : List Col} {k : Nat} {c : Col} (h : cs[k]? = some c) : uniqTo t cs (k + 1) = uniqTo t cs k ++ (if c.un then [⟨dotted t c.name, t, (k : Int), false⟩] else []) := by
  unfold uniqTo
  have hk := (List.getElem?_eq_some_iff.1 h).1
  rw [List.take_add_one, h, Option.toList_some, List.zipIdx_append, List.filter_append, List.map_append]
  congr 1
  have e : (cs.take k).length = k := by rw [List.length_take]; omega
  cases hu : c.un <;> simp [hu, e]
theorem uniqTo_len (t : ByteArray) (cs : List Col) (k : Nat) : (uniqTo t cs k).length ≤ k := by
  unfold uniqTo
  rw [List.length_map]
  refine Nat.le_trans (List.length_filter_le _ _) ?_
  rw [List.length_zipIdx]
  exact List.length_take_le _ _
theorem ixCells_app (l m : List Ix) : ixCells (l ++ m) = ixCells l ++ ixCells m := List.flatMap_append
theorem ixCells_single (x : Ix) : ixCells [x] = x.cells := by simp [ixCells]
theorem nameB_size {s : ByteArray} (h : nameB s = true) : 0 < s.size ∧ s.size ≤ 32 := by
  unfold nameB at h
  simp only [Bool.and_eq_true, decide_eq_true_eq] at h
  exact ⟨h.1.2, h.2⟩
theorem colsOk_at {cs : List Col} {k : Nat} {x : Col} (h : colsOk cs cs.length = true) (hx : cs[k]? = some x) : colOk cs k x = true := by
  have hk := (List.getElem?_eq_some_iff.1 hx).1
  have := colsOk_mono h (by omega : k + 1 ≤ cs.length)
  rw [colsOk_succ hx] at this
  simp only [Bool.and_eq_true] at this
  exact this.2
theorem Cat.ok.col {C : Cat} (h : C.ok) {t : ByteArray} {k : Nat} {x : Col} (hx : (colsOf C.T t)[k]? = some x) : t.size ≤ 32 ∧ x.name.size ≤ 32 := by
  unfold colsOf at hx
  cases hf : tfind C.T t with
  | none => rw [hf] at hx; simp at hx
  | some s =>
    rw [hf] at hx
    have hm := mayB_len (h.tm s (tfind_mem hf))
    rw [tfind_name hf] at hm
    have hc := colsOk_at hm.2.2.2 hx
    unfold colOk at hc
    simp only [Bool.and_eq_true] at hc
    exact ⟨(nameB_size hm.2.2.1).2, (nameB_size hc.1.1.1).2⟩
theorem indexes_nil (t : ByteArray) (w : World) : Calls Try.prog 13 #[.pointer none, .string t] w fun e w' => e = .returned (.slice none 0 0) ∧ w = w' := by
  go_enter Try.func13, Try.ntmps13
  go_wp2
  go_ret
  exact ⟨rfl, rfl⟩
set_option maxRecDepth 100000 in
set_option maxHeartbeats 1000000 in
theorem indexes_any (r : Nat) (F : Nat → Prop) (C : Cat) (t : ByteArray) (w : World) (h : CatAt w r F C) :
    Calls Try.prog 13 #[.pointer (some ⟨r, 0, none⟩), .string t] w fun e w' => ∃ v, e = .returned v ∧ IxsAt w' (fun k => w.heap.size ≤ k) v (C.indexes t) ∧ Chg (fun _ => False) w w' := by
  obtain ⟨mt, mi, es, es', c, c', h⟩ := h
  obtain ⟨c0, c1, c2⟩ := h.cells
  have HH := Lib.hid h
  obtain ⟨lo, lc, hl1, hl2⟩ := h.isT.val t
  have hlk := (hl2 w mt c h.mapT).2
  have hml := h.ok.made_len t
  have hcl := h.ok.cols t
  have HC : Hid (ColsAt w F (.slice lo (colsOf C.T t).length lc) (colsOf C.T t)) := Lib.hid hl1
  have HE := Lib.hid (show C.indexes t = uniqOf t (colsOf C.T t) ++ C.made t from rfl)
  have HSZ := Lib.hid (fun k x (hx : (colsOf C.T t)[k]? = some x) => h.ok.col hx)
  generalize colsOf C.T t = cs at *
  generalize nameAt C.T t = nm at *
  have HML := Lib.hid hml
  clear h hl1 hl2 hml
  go_enter Try.func13, Try.ntmps13
  go_wp2
  clear hlk c0 c1 c2
  go_loopw [5, 18] (fun s i wr => ∃ k : Nat, k ≤ cs.length ∧ i = .int .i64 k ∧ Hid (Own 64 4 wr w.heap.size s (uniqTo t cs k).length (ixCells (uniqTo t cs k))) ∧ Hid (Chg (fun _ => False) w wr)) (fun _ i _ => cs.length - (intOf i).toNat)
  case atStart => exact ⟨0, Nat.zero_le _, rfl, Lib.hid (Own.nil _ _ _ _), Lib.hid (Chg.refl _ _)⟩
  case round =>
    obtain ⟨k, hk, rfl, HO, HX⟩ := hrel
    obtain ⟨ao, cap, rfl, hao⟩ := HO.out.form
    by_cases hlt : k < cs.length
    · obtain ⟨x, hx⟩ : ∃ x, cs[k]? = some x := ⟨_, List.getElem?_eq_getElem hlt⟩
      obtain ⟨b, o, rfl, hbl, _, q0, q1, q2, q3⟩ := ColsAt.col (w := wr) rfl (RowAt.quiet HC.out HX.out) hx
      have HS := Lib.hid (uniqTo_succ (t := t) hx)
      have hul := uniqTo_len t cs k
      have hwr : w.heap.size ≤ wr.heap.size := HX.out.size
      obtain ⟨hts, hxs⟩ := HSZ.out k x hx
      clear hx hao
      cases hu : x.un with
      | false =>
        have HU := Lib.hid hu
        rw [hu] at q3
        clear hu
        go_wp2
        go_roundw
        case rel =>
          refine ⟨k + 1, by omega, by go_num, Lib.hid ?_, Lib.hid (HX.out.alloc _)⟩
          rw [HS.out, HU.out]
          simp only [Bool.false_eq_true, if_false, List.append_nil]
          exact HO.out.quiet ((Chg.refl _ _).alloc _)
        case measure => simp [intOf]; omega
      | true =>
        have HU := Lib.hid hu
        rw [hu] at q3
        clear hu
        go_wp2_with (at_builtin; refine own_app ix_ok rfl _ _ rfl w.heap.size _ (uniqTo t cs k).length (ixCells (uniqTo t cs k)) rfl (Own.quiet HO.out (((Chg.refl _ _).alloc _).alloc _)) (fun _ => True) _ 1 (Ix.cells ⟨dotted t x.name, t, (k : Int), false⟩) rfl (row_one (hal_new' ?_) trivial) rfl ?_ ?_ ?_ ?_ ?_)
        · simp
        · intro u hu
          exact ixCells_one [_] u (by rw [ixCells_single]; exact hu)
        · unfold maxLen; omega
        · omega
        · simp; omega
        · intro v' w2 r2 x2 hat
          obtain ⟨ao2, cap2, rfl, _⟩ := r2.form
          have x4 := (((Chg.refl (fun k_1 => (Value.slice ao (uniqTo t cs k).length cap).ownBlock = some k_1) wr).alloc (.cells #[.string x.name, .int .i64 x.ty, .bool x.nn, .bool true] 30)).alloc (.cells #[.string (dotted t x.name), .string t, .int .i64 k, .bool false] 64)).trans x2 (fun k h => .inl h)
          have HX2 := Lib.hid (((HX.out.mono (G := fun k => w.heap.size ≤ k) (fun _ h => h.elim)).trans x4 (fun k h => .inl (HO.out.lo k h))).mono (G := fun _ => False) (fun k hk => .inr hk))
          have HO2 : Hid (Own 64 4 w2 w.heap.size (.slice ao2 ((uniqTo t cs k).length + 1) cap2) (uniqTo t cs (k + 1)).length (ixCells (uniqTo t cs (k + 1)))) := Lib.hid (by
            rw [HS.out, HU.out]
            simp only [if_true]
            rw [ixCells_app, ixCells_single, List.length_append]
            exact r2)
          clear r2 x2 hat x4 q0 q1 q2 q3
          go_wp2
          go_roundw
          case rel => exact ⟨k + 1, by omega, by go_num, HO2, HX2⟩
          case measure => simp [intOf]; omega
    · have HK := Lib.hid (show k = cs.length by omega)
      clear hao
      go_wp2_with fail
      refine (made_any r F C t wr (CatAt.quiet ⟨mt, mi, es, es', c, c', HH.out⟩ HX.out)).mono ?_
      rintro e w2 ⟨_, rfl, ⟨ao3, cap3, rfl, p3⟩, x3⟩
      have R3 : Hid (IxsAt w2 (fun k => wr.heap.size ≤ k) (.slice ao3 (C.made t).length cap3) (C.made t)) := Lib.hid ⟨ao3, cap3, rfl, p3⟩
      have X3 := Lib.hid x3
      have HO3 := Lib.hid (HO.out.quiet x3)
      have hsz : wr.heap.size ≤ w2.heap.size := x3.size
      have hwr : w.heap.size ≤ wr.heap.size := HX.out.size
      have hul := uniqTo_len t cs k
      have hml := HML.out
      clear p3 x3
      go_wp2_with (at_builtin; refine own_app ix_ok rfl _ _ rfl w.heap.size _ (uniqTo t cs k).length (ixCells (uniqTo t cs k)) rfl HO3.out (fun k => wr.heap.size ≤ k) _ (C.made t).length (ixCells (C.made t)) rfl R3.out (ixCells_len _) (ixCells_one _) ?_ ?_ ?_ ?_)
      · unfold maxLen; omega
      · omega
      · omega
      · intro v' w4 r4 x4 hat
        have R4 := Lib.hid r4
        have X4 := Lib.hid ((((HX.out.trans X3.out (fun _ h => h.elim)).mono (G := fun k => w.heap.size ≤ k) (fun _ h => h.elim)).trans x4 (fun k h => .inl (HO.out.lo k h))).mono (G := fun _ => False) (fun k hk => .inr hk))
        clear r4 x4 hat
        go_wp2
        go_ret
        refine ⟨_, rfl, ?_, X4.out⟩
        have := R4.out.read
        rw [HE.out]
        unfold uniqOf
        rw [← HK.out]
        show RowAt _ _ _ (uniqTo t cs k ++ C.made t).length (ixCells (uniqTo t cs k ++ C.made t))
        rw [ixCells_app, List.length_append]
        exact this
end Go.Proofs.Ytpiijcjbphpffaa
