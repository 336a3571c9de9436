/-
  The indexes that were made of a table, by name. No condition beyond each lemma's own.
-/
import Derived.Test.YtpiijcjbphpffaaCSort
import Derived.Maps.RangeWalk
set_option autoImplicit false
namespace Go.Proofs.Ytpiijcjbphpffaa
open Go Go.RowKit

/-! a range over a map that stands as it was -/
def leftL (es : Array MapEntry) (seen : Array Nat) : List MapEntry := (leftOf es seen).toList
structure Rng (w : World) (r mb : Nat) (es : Array MapEntry) (c : Nat) (left : List MapEntry) : Prop where
  it : ∃ seen last, w.heap[r]? = some (.mapIter (some mb) c seen last) ∧ c ≤ last ∧ left = leftL es seen
  map : w.heap[mb]? = some (.map es c)
  ne : r ≠ mb
def mLeft (w : World) (r mb : Nat) : Nat := match w.heap[r]?, w.heap[mb]? with
  | some (.mapIter _ _ seen _), some (.map es _) => (leftL es seen).length
  | _, _ => 0
theorem Rng.left_eq {w : World} {r mb : Nat} {es : Array MapEntry} {c : Nat} {left : List MapEntry} (h : Rng w r mb es c left) : mLeft w r mb = left.length := by
  obtain ⟨seen, last, h1, _, rfl⟩ := h.it
  unfold mLeft
  rw [h1, h.map]
theorem Rng.chg {w w' : World} {r mb : Nat} {es : Array MapEntry} {c : Nat} {left : List MapEntry} {G : Nat → Prop} (h : Rng w r mb es c left) (x : Chg G w w') (hr : ¬ G r) (hm : ¬ G mb) : Rng w' r mb es c left := by
  obtain ⟨seen, last, h1, h2, h3⟩ := h.it
  exact ⟨⟨seen, last, x.heap h1 hr, h2, h3⟩, x.heap h.map hm, h.ne⟩
theorem leftL_push (es : Array MapEntry) (seen : Array Nat) (b : Nat) : leftL es (seen.push b) = (leftL es seen).filter fun e => e.born != b := by
  unfold leftL leftOf
  rw [Array.toList_filter, Array.toList_filter, List.filter_filter]
  apply List.filter_congr
  intro e _
  rw [Array.contains_push]
  cases h1 : seen.contains e.born <;> cases h2 : e.born == b <;> simp [bne, h2]
theorem pick_perm : ∀ (l : List MapEntry) (e : MapEntry), (l.map (·.born)).Nodup → e ∈ l → l.Perm (e :: l.filter fun x => x.born != e.born)
  | [], e, _, h => by simp at h
  | x :: l, e, hn, he => by
    rw [List.map_cons, List.nodup_cons] at hn
    rcases List.mem_cons.1 he with rfl | he
    · have : (e :: l).filter (fun x => x.born != e.born) = l := by
        rw [List.filter_cons]
        simp only [bne_self_eq_false, Bool.false_eq_true, if_false]
        refine List.filter_eq_self.2 fun y hy => ?_
        have : y.born ≠ e.born := fun h => hn.1 (h ▸ List.mem_map.2 ⟨y, hy, rfl⟩)
        simpa using this
      rw [this]
    · have hx : (x.born != e.born) = true := by
        have : x.born ≠ e.born := fun h => hn.1 (h ▸ List.mem_map.2 ⟨e, he, rfl⟩)
        simpa using this
      rw [List.filter_cons, if_pos hx]
      exact ((pick_perm l e hn.2 he).cons x).trans (List.Perm.swap e x _)
section
variable {P : Program} (w : World) {ops : Array Oper} {rest : List Oper} {o : Oper} {a : Act} {Q : Exit → Act → World → Prop}
/-- 'range m' -/
theorem wpList_range_rng (hg : o.guard = none) (m : Operand) (t : TypeId) (hop : o.op = Op.range t m) (k e : TypeId) (ht : P.underlying t = some (.map k e)) (mb : Nat) (es : Array MapEntry) (c : Nat)
    (hm : a.eval m = .map (some mb)) (hb : w.heap[mb]? = some (.map es c))
    (hK : ∀ w', Rng w' w.heap.size mb es c es.toList → Chg (fun _ => False) w w' → w'.heap.size = w.heap.size + 1 → wpList P ops Q rest (a.put o.dst (.pointer (some ⟨w.heap.size, 0, none⟩))) w') :
    wpList P ops Q (o :: rest) a w := by
  refine wpList_plain hg fun K' hK' => ?_
  have hrun : (Instr.range t (.map (some mb))).run P w = .ok (.pointer (some ⟨w.heap.size, 0, none⟩)) (w.alloc (.mapIter (some mb) c #[] c)) := by
    simp only [Instr.range, Sem.run_bind, run_underlying ht, Result.andThen_ok]
    have hg : (getObj mb).run P w = .ok (.map es c) w := by simp [getObj, Sem.run, hb]
    simp only [hg, Result.andThen_ok, Sem.run_bind, Sem.run_pure]
    rfl
  unfold Oper.wp
  simp only [execOp, hop, hm, hrun, Sem.run_bind, Sem.run_pure, Result.andThen]
  refine hK' _ _ (hK _ ⟨⟨#[], c, hal_new, Nat.le_refl _, ?_⟩, (hal_old (lt_of_heap hb)).trans hb, fun e => absurd (lt_of_heap hb) (by omega)⟩ ((Chg.refl _ _).alloc _) (by simp))
  unfold leftL leftOf
  simp only [Array.toList_filter]
  exact (List.filter_eq_self.2 (fun _ _ => by simp)).symm
/-- a step -/
theorem wpList_next_rng (hg : o.guard = none) (it : Operand) (hop : o.op = Op.next it false) (r mb : Nat) (es : Array MapEntry) (c : Nat) (left : List MapEntry)
    (hit : a.eval it = .pointer (some ⟨r, 0, none⟩)) (h : Rng w r mb es c left) (hs : MapKept.Stamped es c)
    (hDone : left = [] → wpList P ops Q rest (a.put o.dst (.tuple #[.bool false])) w)
    (hMore : ∀ (e : MapEntry) (left' : List MapEntry) (w' : World), e ∈ es.toList → left.Perm (e :: left') → Rng w' r mb es c left' → Chg (fun k => k = r) w w' → w'.heap.size = w.heap.size →
      (Instr.entry (.pointer (some ⟨r, 0, none⟩))).run P w' = .ok (.tuple #[e.key, e.val]) w' → wpList P ops Q rest (a.put o.dst (.tuple #[.bool true, e.key, e.val])) w') :
    wpList P ops Q (o :: rest) a w := by
  refine wpList_plain hg fun K' hK' => ?_
  obtain ⟨seen, last, h1, h2, h3⟩ := h.it
  unfold Oper.wp
  rcases run_next_at (P := P) w o.type r mb c last seen es c h1 h.map hs.1 h2 with ⟨h0, hrun⟩ | ⟨e, he, w1, hw1, hrun⟩
  · simp only [execOp, hop, hit, hrun, Sem.run_bind, Sem.run_pure, Result.andThen]
    refine hK' _ _ (hDone ?_)
    rw [h3]
    unfold leftL
    exact List.eq_nil_of_length_eq_zero (by simpa using h0)
  · have hne : e ∈ es.toList := by
      unfold leftOf at he
      simp at he
      simpa using he.1
    have hch : Chg (fun k => k = r) w (ChangeMaps.setBlock w1 r (.mapIter (some mb) c (seen.push e.born) c)) := by
      have h0 : Chg (fun k => k = r) w w1 := by
        rcases hw1 with rfl | rfl
        · exact Chg.refl _ _
        · exact (Chg.refl _ _).drew
      exact h0.setObj (.inl rfl) _
    have hsz : (ChangeMaps.setBlock w1 r (.mapIter (some mb) c (seen.push e.born) c)).heap.size = w.heap.size := by
      rcases hw1 with rfl | rfl <;> simp [ChangeMaps.setBlock]
    have hr' : (ChangeMaps.setBlock w1 r (.mapIter (some mb) c (seen.push e.born) c)).heap[r]? = some (.mapIter (some mb) c (seen.push e.born) c) := by
      have : r < w1.heap.size := by rcases hw1 with rfl | rfl <;> exact lt_of_heap h1
      exact hobj_eq this
    have hm' := hch.heap h.map (fun e => h.ne e.symm)
    simp only [execOp, hop, hit, hrun, Sem.run_bind, Sem.run_pure, Result.andThen]
    refine hK' _ _ (hMore e _ _ hne ?_ ⟨⟨_, c, hr', Nat.le_refl _, rfl⟩, hm', h.ne⟩ hch hsz (run_entry_at (P := P) _ r mb c seen es c e hr' hm' hne hs.2.1))
    rw [h3, leftL_push]
    refine pick_perm _ e ?_ he
    unfold leftL leftOf
    rw [Array.toList_filter]
    exact (List.filter_sublist.map _).nodup hs.2.1
end
/-! the indexes of a table -/
def Cat.made (C : Cat) (t : ByteArray) : List Ix := byName (C.I.filter fun x => x.tab == t)
theorem Cat.ok.made_len {C : Cat} (h : C.ok) (t : ByteArray) : (C.made t).length ≤ 16 := by
  unfold Cat.made
  rw [(byName_perm _).length_eq]
  exact h.i16 t
def strOf : Value → ByteArray
  | .string s => s
  | _ => ⟨#[]⟩
def intV : Value → Int
  | .int _ a => a
  | _ => 0
def boolV : Value → Bool
  | .bool b => b
  | _ => false
def decIx : Value → Ix
  | .agg cs => ⟨strOf (cs[0]?.getD undef), strOf (cs[1]?.getD undef), intV (cs[2]?.getD undef), boolV (cs[3]?.getD undef)⟩
  | _ => default
theorem decIx_val (x : Ix) : decIx x.val = x := rfl
theorem IxEnt.dec {es : Array MapEntry} {c : Nat} {I : List Ix} (h : IxEnt es c I) : (es.toList.map fun e => decIx e.val).Perm I ∧ ∀ e ∈ es.toList, e.key = .string (decIx e.val).name ∧ e.val = (decIx e.val).val := by
  constructor
  · have := h.perm.map (fun p => decIx p.2)
    rw [List.map_map, List.map_map] at this
    have e : I.map ((fun p : Value × Value => decIx p.2) ∘ fun x => (Value.string x.name, x.val)) = I := by
      conv => rhs; rw [← List.map_id I]
      exact List.map_congr_left fun x _ => rfl
    rw [e] at this
    exact this
  · intro e he
    have : (e.key, e.val) ∈ I.map (fun x => (Value.string x.name, x.val)) := h.perm.mem_iff.1 (List.mem_map.2 ⟨e, he, rfl⟩)
    obtain ⟨x, _, hx⟩ := List.mem_map.1 this
    simp only [Prod.mk.injEq] at hx
    rw [← hx.1, ← hx.2]
    exact ⟨rfl, rfl⟩
def tabF (t : ByteArray) (l : List Ix) : List Ix := l.filter fun x => x.tab == t
theorem tabF_le {C : Cat} (h : C.ok) (t : ByteArray) {l m : List Ix} (hp : (l ++ m).Perm C.I) : (tabF t l).length + (tabF t m).length ≤ 16 := by
  have := (hp.filter fun x => x.tab == t).length_eq
  rw [List.filter_append, List.length_append] at this
  have h2 := h.i16 t
  unfold tabF
  omega
set_option maxRecDepth 100000 in
set_option maxHeartbeats 1000000 in
theorem made_any (r : Nat) (F : Nat → Prop) (C : Cat) (t : ByteArray) (w : World) (h : CatAt w r F C) :
    Calls Try.prog 32 #[.pointer (some ⟨r, 0, none⟩), .string t] w fun e w' => ∃ v, e = .returned v ∧ IxsAt w' (fun k => w.heap.size ≤ k) v (C.made t) ∧ Chg (fun _ => False) w w' := by
  obtain ⟨mt, mi, es, es', c, c', h⟩ := h
  obtain ⟨c0, c1, c2⟩ := h.cells
  have hmi := h.mapI
  have HH := Lib.hid h
  have HD := Lib.hid h.isI.dec
  clear h
  go_enter Try.func32, Try.ntmps32
  go_wp2_with (at_range; refine wpList_range_rng _ rfl _ 66 rfl 9 64 Try.underlying66 mi es' c' rfl hmi ?_; intro w0 hrg0 hx0 hs0)
  go_frame
  have HR0 := Lib.hid hrg0; have HX0 := Lib.hid hx0
  clear hrg0 hx0 hs0 hmi
  go_loopw [5] (fun s wr => ∃ (done : List Ix) (left : List MapEntry), Hid (Rng wr w.heap.size mi es' c' left) ∧ Hid ((done ++ left.map fun e => decIx e.val).Perm C.I) ∧ Hid (Own 64 4 wr w.heap.size s (tabF t done).length (ixCells (tabF t done))) ∧ Hid (Chg (fun _ => False) w wr)) (fun _ wr => mLeft wr w.heap.size mi)
  case atStart => exact ⟨[], es'.toList, HR0, Lib.hid HD.out.1, Lib.hid (Own.nil _ _ _ _), HX0⟩
  case round =>
    obtain ⟨done, left, HR, HP, HO, HX⟩ := hrel
    go_wp2_with (at_next; refine wpList_next_rng _ rfl _ rfl w.heap.size mi es' c' left rfl HR.out HH.out.isI.stamped ?_ ?_)
    · intro hl
      subst hl
      have hnd : ((tabF t done).map (·.name)).Nodup := by
        have hp := HP.out
        simp only [List.map_nil, List.append_nil] at hp
        have := ((hp.filter fun x => x.tab == t).map fun x : Ix => x.name).nodup_iff.2
        exact this ((List.filter_sublist.map _).nodup HH.out.ok.inn)
      have hlen : (tabF t done).length ≤ 16 := by
        have := tabF_le HH.out.ok t HP.out
        omega
      have HN := Lib.hid hnd
      clear hnd
      obtain ⟨ao, cap, rfl, hao⟩ := HO.out.form
      clear hao
      go_wp2_with fail
      refine (sortIx_any w.heap.size _ (tabF t done) _ HO.out (by omega) HN.out).mono ?_
      rintro e w' ⟨rfl, r1, x1⟩
      have R1 := Lib.hid r1; have X1 := Lib.hid x1
      clear r1 x1
      go_wp2
      go_ret
      have hp := HP.out
      simp only [List.map_nil, List.append_nil] at hp
      have hM : byName (tabF t done) = C.made t := by
        refine rises_eq (f := fun x : Ix => x.name) (((byName_perm _).trans (hp.filter _)).trans (byName_perm _).symm) ?_ (byName_rises _) (byName_rises _)
        exact ((byName_perm (tabF t done)).map _).nodup_iff.2 HN.out
      have hl : (tabF t done).length = (C.made t).length := by rw [← hM]; exact (byName_perm _).length_eq.symm
      refine ⟨_, rfl, ?_, ((HX.out.mono (G := fun k => w.heap.size ≤ k) (fun _ h => h.elim)).trans X1.out (fun k h => .inl (HO.out.lo k h))).mono (fun k hk => .inr hk)⟩
      have := R1.out
      rw [hM, hl] at this
      rw [hl]
      exact this
    · intro e left' w1 he hp hr1 hx1 hs1 hen
      have hkv := HD.out.2 e (by simpa using he)
      have hp2 := ((hp.map fun e => decIx e.val).append_left done).symm.trans HP.out
      simp only [List.map_cons] at hp2
      obtain ⟨x, hx⟩ : ∃ x, x = decIx e.val := ⟨_, rfl⟩
      rw [← hx] at hkv hp2
      obtain ⟨hk, hv⟩ := hkv
      clear hx
      rw [hk, hv] at hen ⊢
      obtain ⟨ao, cap, rfl, hao⟩ := HO.out.form
      have hrb := lt_of_heap HR.out.it.choose_spec.choose_spec.1
      have hnb : ∀ g, (Value.slice ao (tabF t done).length cap).ownBlock = some g → ¬ g = w.heap.size := by
        intro g hg e
        subst e
        obtain ⟨seen, last, h1, _⟩ := HR.out.it
        obtain ⟨cur, hc⟩ := ownsRow_heap HO.out.row hg
        rw [h1] at hc
        cases hc
      have HO1 := Lib.hid (HO.out.chg hx1 hnb)
      have HNB := Lib.hid hnb
      have HR1 := Lib.hid hr1; have HP2 := Lib.hid hp2
      have HX1 := Lib.hid (((HX.out.mono (G := fun k => w.heap.size ≤ k) (fun _ h => h.elim)).trans hx1 (fun k h => .inl (by omega))).mono (G := fun _ => False) (fun k hk => .inr hk))
      have HS1 := Lib.hid hs1
      have HLE : Hid (left.length = left'.length + 1) := Lib.hid (by simpa using hp.length_eq)
      clear hr1 hp2 hx1 hp hk hv he HP hao HO hnb HD
      unfold Ix.val at hen ⊢
      cases hb : x.tab == t with
      | true =>
        have HB := Lib.hid hb
        rw [beq_list] at hb
        have hlen := tabF_le HH.out.ok t HP2.out
        go_wp2_with (at_builtin; refine own_app ix_ok rfl _ _ rfl w.heap.size _ (tabF t done).length (ixCells (tabF t done)) rfl (Own.quiet HO1.out (((Chg.refl _ _).alloc _).alloc _)) (fun _ => True) _ 1 x.cells rfl (row_one (hal_new' ?_) trivial) rfl ?_ ?_ ?_ ?_ ?_)
        · simp [HS1.out]
        · intro u hu
          exact ixCells_one [x] u (by simpa [ixCells] using hu)
        · unfold maxLen; omega
        · omega
        · simp [HS1.out]; omega
        · intro v' w2 r2 x2 hat
          have hlo := r2.lo
          obtain ⟨ao2, cap2, rfl, _⟩ := r2.form
          have e1 : tabF t (done ++ [x]) = tabF t done ++ [x] := by unfold tabF; rw [List.filter_append, List.filter_cons, HB.out]; rfl
          have hnb2 : ∀ k, (Value.slice ao (tabF t done).length cap).ownBlock = some k → k ≠ w.heap.size ∧ k ≠ mi := by
            intro k hk
            refine ⟨HNB.out k hk, fun e => ?_⟩
            subst e
            obtain ⟨cur, hc⟩ := ownsRow_heap HO1.out.row hk
            rw [HR1.out.map] at hc
            cases hc
          have x3 := ((Chg.refl (fun k => (Value.slice ao (tabF t done).length cap).ownBlock = some k) w1).alloc (.cells #[.string x.name, .string x.tab, .int .i64 x.col, .bool x.hash] 64)).alloc (.cells #[.string x.name, .string x.tab, .int .i64 x.col, .bool x.hash] 64)
          have x4 := x3.trans x2 (fun k h => .inl h)
          have HR2 := Lib.hid (HR1.out.chg x4 (fun h => (hnb2 _ h).1 rfl) (fun h => (hnb2 _ h).2 rfl))
          have HX2 := Lib.hid (((HX1.out.mono (G := fun k => w.heap.size ≤ k) (fun _ h => h.elim)).trans x4 (fun k h => .inl (HO1.out.lo k h))).mono (G := fun _ => False) (fun k hk => .inr hk))
          have HO2 : Hid (Own 64 4 w2 w.heap.size (.slice ao2 ((tabF t done).length + 1) cap2) (tabF t (done ++ [x])).length (ixCells (tabF t (done ++ [x])))) := Lib.hid (by
            rw [e1]
            have : ixCells (tabF t done ++ [x]) = ixCells (tabF t done) ++ x.cells := by unfold ixCells; rw [List.flatMap_append]; simp
            rw [this, List.length_append]
            exact r2)
          clear r2 x2 hat hlo hnb2 x3 x4 e1 hb hen
          go_wp2
          go_roundw
          case rel => exact ⟨done ++ [x], left', HR2, Lib.hid (by rw [List.append_assoc]; exact HP2.out), HO2, HX2⟩
          case measure =>
            rw [HR2.out.left_eq, HR.out.left_eq]
            have := HLE.out
            omega
      | false =>
        have HB := Lib.hid hb
        rw [beq_list] at hb
        go_wp2
        go_roundw
        case rel =>
          have e1 : tabF t (done ++ [x]) = tabF t done := by unfold tabF; rw [List.filter_append, List.filter_cons, HB.out]; simp
          refine ⟨done ++ [x], left', Lib.hid (HR1.out.chg ((Chg.refl (fun _ => False) _).alloc _) (fun h => h) (fun h => h)), Lib.hid (by rw [List.append_assoc]; exact HP2.out), Lib.hid ?_, Lib.hid (HX1.out.alloc _)⟩
          rw [e1]
          exact HO1.out.quiet ((Chg.refl _ _).alloc _)
        case measure =>
          rw [(HR1.out.chg ((Chg.refl (fun _ => False) _).alloc _) (fun h => h) (fun h => h)).left_eq, HR.out.left_eq]
          have := HLE.out
          omega
end Go.Proofs.Ytpiijcjbphpffaa
