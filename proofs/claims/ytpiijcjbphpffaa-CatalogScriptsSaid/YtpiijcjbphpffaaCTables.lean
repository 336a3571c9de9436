/-
  What Tables does. No condition beyond each lemma's own.
-/
import Derived.Test.YtpiijcjbphpffaaCTabs
import Derived.Test.YtpiijcjbphpffaaCTabAt
set_option autoImplicit false
namespace Go.Proofs.Ytpiijcjbphpffaa
open Go Go.RowKit
attribute [local go_sem] field_tab0 field_tab1

theorem tables_nil (w : World) : Calls Try.prog 12 #[.pointer none] w fun e w' => e = .returned (.slice none 0 0) ∧ w = w' := by
  go_enter Try.func12, Try.ntmps12
  go_wp2
  go_ret
  exact ⟨rfl, rfl⟩
set_option maxRecDepth 100000 in
set_option maxHeartbeats 1000000 in
theorem tables_any (r : Nat) (F : Nat → Prop) (C : Cat) (w : World) (h : CatAt w r F C) :
    Calls Try.prog 12 #[.pointer (some ⟨r, 0, none⟩)] w fun e w' => ∃ v, e = .returned v ∧ TabsAt w' (fun k => w.heap.size ≤ k) v C.tables ∧ Chg (fun _ => False) w w' := by
  obtain ⟨mt, mi, es, es', c, c', h⟩ := h
  obtain ⟨c0, c1, c2⟩ := h.cells
  have HH := Lib.hid h
  have hok := h.ok
  have h16 : C.tables.length ≤ 16 := by
    have := hok.t16
    unfold Cat.tables
    rw [(byNameT_perm _).length_eq]; exact this
  have HTF := Lib.hid (fun k t (ht : C.tables[k]? = some t) => (⟨tfind_of_mem hok.tn ((byNameT_perm C.T).mem_iff.1 (List.mem_of_getElem? ht)), (mayB_len (hok.tm t ((byNameT_perm C.T).mem_iff.1 (List.mem_of_getElem? ht)))).2.1⟩ : tfind C.T t.name = some t ∧ t.cols.length ≤ 16))
  clear h hok
  go_enter Try.func12, Try.ntmps12
  go_wp2_with fail
  refine (keys_calls (some mt) _).mono ?_
  rintro e w1 ⟨rfl, rfl⟩
  go_wp2_with fail
  refine (sorted_calls HH.out.ok w w HH.out.isT HH.out.mapT).mono ?_
  rintro e w2 ⟨v, rfl, o2, x2⟩
  obtain ⟨ao, cap, rfl, hao⟩ := o2.form
  have HO := Lib.hid o2.read
  have X2 := Lib.hid (((Chg.refl (fun _ => False) w).alloc (.cells #[.map (some mt)] 65)).trans x2 (fun _ h => h.elim))
  have HN := Lib.hid (show C.tables.length ≤ 16 from h16)
  clear o2 x2 hao
  generalize hts : C.tables = ts at *
  have HTS := Lib.hid hts
  clear hts
  go_wp2
  go_loopw [3, 15] (fun s i wr => ∃ (k : Nat) (us : List Value), k ≤ ts.length ∧ i = .int .i64 k ∧ Hid (Own 27 2 wr w2.heap.size s k (tabCells (ts.take k) us)) ∧ Hid (ColsEach wr (fun g => w2.heap.size ≤ g ∧ s.ownBlock ≠ some g) (ts.take k) us) ∧ Hid (Chg (fun _ => False) w2 wr)) (fun _ i _ => ts.length - (intOf i).toNat)
  case atStart => exact ⟨0, [], Nat.zero_le _, rfl, Lib.hid (Own.nil _ _ _ _), Lib.hid ⟨by simp, fun i t u ht _ => by simp at ht⟩, Lib.hid (Chg.refl _ _)⟩
  case round =>
    obtain ⟨k, us, hk, rfl, HOW, HE, HX⟩ := hrel
    obtain ⟨ao1, cap1, rfl, hao1⟩ := HOW.out.form
    clear hao1
    by_cases hlt : k < ts.length
    · obtain ⟨t, ht⟩ : ∃ t, ts[k]? = some t := ⟨_, List.getElem?_eq_getElem hlt⟩
      obtain ⟨htf, htc⟩ := HTF.out k t ht
      have x3 := X2.out.trans HX.out (fun _ h => h.elim)
      have h3 := HH.out.quiet x3
      obtain ⟨d0, d1, d2⟩ := h3.cells
      obtain ⟨lo, lc, hl1, hl2⟩ := h3.isT.val t.name
      have hlk := (hl2 wr _ _ h3.mapT).2
      have e1 : colsOf C.T t.name = t.cols := by unfold colsOf; rw [htf]
      have e2 : nameAt C.T t.name = t.name := by unfold nameAt; rw [htf]; rfl
      rw [e1, e2] at hlk
      rw [e1] at hl1
      have hq := RowAt.quiet HO.out HX.out
      obtain ⟨ao0, cap0, hao0, hpp⟩ := hq
      simp only [Value.slice.injEq] at hao0
      obtain ⟨rfl, _, rfl⟩ := hao0
      obtain ⟨b, o, rfl, hbl, _, hr⟩ := hpp (by omega)
      have hkc := hr k (.string t.name) (by
        unfold strCells tNames
        rw [List.map_map, List.getElem?_map, ht]
        rfl)
      have HL1 := Lib.hid hl1; have HT := Lib.hid ht
      have hwr : w2.heap.size ≤ wr.heap.size := HX.out.size
      clear hl1 hl2 htf e1 e2 hpp hr x3 h3 ht d1
      go_wp2_with fail
      refine (copied_any t.name _ F t.cols wr HL1.out (by omega)).mono ?_
      rintro e w4 ⟨_, rfl, ⟨a4, k4, rfl, p4⟩, x4⟩
      have R4 : Hid (ColsAt w4 (fun k => wr.heap.size ≤ k) (.slice a4 t.cols.length k4) t.cols) := Lib.hid ⟨a4, k4, rfl, p4⟩
      have X4 := Lib.hid x4
      have hw4 : wr.heap.size ≤ w4.heap.size := x4.size
      have HO4 := Lib.hid (HOW.out.quiet (x4.alloc (.cells #[.string t.name, .slice a4 t.cols.length k4] 27)))
      clear p4 x4 hlk
      go_wp2_with (at_builtin; refine own_app tab_ok rfl _ _ rfl w2.heap.size _ k (tabCells (ts.take k) us) rfl HO4.out (fun _ => True) _ 1 [.string t.name, .slice a4 t.cols.length k4] rfl (row_one hal_new trivial) rfl ?_ ?_ ?_ ?_ ?_)
      · intro u hu
        simp at hu
        rcases hu with rfl | rfl <;> rfl
      · unfold maxLen; omega
      · omega
      · simp; omega
      · intro v' w5 r5 x5 hat
        obtain ⟨ao5, cap5, rfl, _⟩ := r5.form
        have hT1 : ts.take (k + 1) = ts.take k ++ [t] := by rw [List.take_add_one, HT.out]; rfl
        have x45 := ((Chg.refl (fun k_1 => (Value.slice ao1 k cap1).ownBlock = some k_1) w4).alloc (.cells #[.string t.name, .slice a4 t.cols.length k4] 27)).trans x5 (fun k h => .inl h)
        have HX5 := Lib.hid (((((HX.out.trans X4.out (fun _ h => h.elim)).mono (G := fun k => w2.heap.size ≤ k) (fun _ h => h.elim)).trans x45 (fun k h => .inl (HOW.out.lo k h))).mono (G := fun _ => False) (fun k hk => .inr hk)))
        have HO5 : Hid (Own 27 2 w5 w2.heap.size (.slice ao5 (k + 1) cap5) (k + 1) (tabCells (ts.take (k + 1)) (us ++ [.slice a4 t.cols.length k4]))) := Lib.hid (by
          rw [hT1, tabCells_app HE.out.1]
          exact r5)
        have hol := fun g (hg : (Value.slice ao1 k cap1).ownBlock = some g) => HOW.out.lt hg
        have HE5 : Hid (ColsEach w5 (fun g => w2.heap.size ≤ g ∧ (Value.slice ao5 (k + 1) cap5).ownBlock ≠ some g) (ts.take (k + 1)) (us ++ [.slice a4 t.cols.length k4])) := Lib.hid (by
          rw [hT1]
          refine ColsEach.app ?_ ?_
          · refine ((HE.out.mono (G := fun g => (w2.heap.size ≤ g ∧ (Value.slice ao1 k cap1).ownBlock ≠ some g) ∧ g < wr.heap.size) (fun g hg hl => ⟨hg, hl⟩)).chg (X4.out.mono (G := fun k_1 => (Value.slice ao1 k cap1).ownBlock = some k_1) (fun _ h => h.elim)) (fun g hg h => hg.1.2 h)).chg x45 (fun g hg h => hg.1.2 h) |>.mono ?_
            intro g hg _
            refine ⟨hg.1.1, fun h5 => ?_⟩
            rcases hat g h5 with h | h
            · exact hg.1.2 h
            · have := hg.2; omega
          · refine (RowAt.mono (G := fun g => wr.heap.size ≤ g ∧ g < w4.heap.size) R4.out (fun g hg hl => ⟨hg, hl⟩)).chg x45 (fun g hg h => by have := hol g h; omega) |>.mono ?_
            intro g hg _
            refine ⟨by omega, fun h5 => ?_⟩
            rcases hat g h5 with h | h
            · have := hol g h; omega
            · omega)
        clear r5 x5 hat x45 hol
        go_wp2
        go_roundw
        case rel => exact ⟨k + 1, _, by omega, by go_num, HO5, HE5, HX5⟩
        case measure => simp [intOf]; omega
    · have HK := Lib.hid (show k = ts.length by omega)
      go_wp2
      go_ret
      rw [HTS.out]
      refine ⟨_, rfl, ⟨us, ?_, ?_⟩, X2.out.trans HX.out (fun _ h => h.elim)⟩
      · have := HE.out
        rw [HK.out, List.take_length] at this
        exact this.mono (fun k hk _ => by have := X2.out.size; have := hk.1; show w.heap.size ≤ k; omega)
      · have := HOW.out.read
        rw [HK.out, List.take_length] at this
        have this := this.mono (G := fun k => w.heap.size ≤ k) (fun k hk _ => by have := X2.out.size; show w.heap.size ≤ k; omega)
        rw [← HK.out] at this ⊢
        exact this
end Go.Proofs.Ytpiijcjbphpffaa
