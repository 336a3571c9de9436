/-
  What the document's Indexes does. No condition beyond each lemma's own.
-/
import Derived.Test.YtpiijcjbphpffaaCRTabs
import Derived.Deep.RegionWith
import Derived.Deep.DeepCutAuto
set_option autoImplicit false
namespace Go.Proofs.Ytpiijcjbphpffaa
open Go Go.RowKit
attribute [local go_sem] field_tab0 field_tab1

theorem rfind_at {lo r : Nat} {K : Nat → Prop} {vt vi : Value} {C : Cat} {k : ByteArray} {x : Int} (hx : findI C.T k = x) {w : World} (h : RAt w lo r K vt vi C) :
    Calls Try.prog 38 #[.pointer (some ⟨r, 0, none⟩), .string k] w fun e w' => e = .returned (.int .i64 x) ∧ w = w' := by
  subst hx
  exact rfind_any lo r K vt vi C k w h
theorem indexes_none {C : Cat} (h : C.ok) {t : ByteArray} (ht : tfind C.T t = none) : C.indexes t = [] := by
  have h1 : colsOf C.T t = [] := by unfold colsOf; rw [ht]
  have h2 : C.made t = [] := by
    unfold Cat.made
    have : C.I.filter (fun x => x.tab == t) = [] := by
      rw [List.filter_eq_nil_iff]
      intro x hx he
      obtain ⟨_, s, hs, _⟩ := h.im x hx
      rw [beq_eq he, ht] at hs
      cases hs
    rw [this]
    simp [byName]
  unfold Cat.indexes
  rw [h1, h2]
  rfl
theorem rindexes_nil (t : ByteArray) (w : World) : Calls Try.prog 41 #[.pointer none, .string t] w fun e w' => e = .returned (.slice none 0 0) ∧ w = w' := by
  go_enter Try.func41, Try.ntmps41
  go_wp2
  go_ret
  exact ⟨rfl, rfl⟩
set_option maxRecDepth 100000 in
set_option maxHeartbeats 4000000 in
theorem rindexes_any (lo r : Nat) (K : Nat → Prop) (vt vi : Value) (C : Cat) (t : ByteArray) (w : World) (h : RAt w lo r K vt vi C) :
    Calls Try.prog 41 #[.pointer (some ⟨r, 0, none⟩), .string t] w fun e w' => ∃ v, e = .returned v ∧ IxsAt w' (fun k => w.heap.size ≤ k) v (C.indexes t) ∧ Chg (fun _ => False) w w' := by
  obtain ⟨⟨ao, cap, rfl⟩, bo, cap2, rfl⟩ := h.form
  have HH := Lib.hid h
  cases hf : tfind C.T t with
  | none =>
    have hi := findI_none hf
    have HN := Lib.hid (indexes_none h.ok hf)
    clear hf h
    have hfd := rfind_at hi HH.out
    clear hi
    go_enter Try.func41, Try.ntmps41
    go_wp2_with fail
    refine hfd.mono ?_
    rintro e w' ⟨rfl, rfl⟩
    clear hfd
    go_wp2
    go_ret
    refine ⟨_, rfl, ?_, Chg.refl _ _⟩
    rw [HN.out]
    exact RowAt.nil _ _ _ _
  | some s =>
    obtain ⟨i, hi, hs⟩ := findI_some hf
    have hcs : colsOf C.T t = s.cols := by unfold colsOf; rw [hf]
    have HE := Lib.hid (show C.indexes t = uniqOf t s.cols ++ C.made t by unfold Cat.indexes; rw [hcs])
    have hml := h.ok.made_len t
    have hcl := (mayB_len (h.ok.tm s (tfind_mem hf))).2.1
    have HSZ := Lib.hid (fun k x (hx : s.cols[k]? = some x) => h.ok.col (t := t) (k := k) (x := x) (by rw [hcs]; exact hx))
    have hil := (List.getElem?_eq_some_iff.1 hs).1
    have hit := h.ok.t16
    obtain ⟨b0, o0, a1, k1, rfl, hbl, q0, q1, qc⟩ := RAt.tab h hs
    obtain ⟨c0, c1, c2⟩ := h.cells
    have HCL := Lib.hid qc; have HML := Lib.hid hml
    have HI := Lib.hid hi
    have hfd : ∀ W, Chg (fun _ => False) w W → Calls Try.prog 38 #[.pointer (some ⟨r, 0, none⟩), .string t] W fun e w' => e = .returned (.int .i64 i) ∧ W = w' := fun W hW => rfind_at hi (HH.out.quiet hW)
    have HFD := Lib.hid hfd
    clear hf h hi hs hcs hml qc hfd c1
    go_enter Try.func41, Try.ntmps41
    go_wp2_with fail
    refine (HFD.out _ (Chg.refl _ _)).mono ?_
    rintro e w' ⟨rfl, rfl⟩
    go_upto_region 4 with fail
    go_cut [6] (fun s6 wx => ∃ b, s6 = .pointer (some ⟨b, 0, none⟩) ∧ wx.heap[b]? = some (.cells #[.string s.name, .slice a1 s.cols.length k1] 27 (0, 0)) ∧ Chg (fun _ => False) w wx)
    case first =>
      go_region_with (go_at_call 38; refine (HFD.out _ ?_).mono ?_; (repeat' (first | exact Chg.refl _ _ | apply Chg.drew | apply Chg.alloc)); rintro e w' ⟨rfl, rfl⟩)
      all_goals
        go_wp2_with fail
        go_meet
        exact ⟨_, rfl, hal_new, ((Chg.refl _ _).alloc _).drew⟩
    case rest =>
      obtain ⟨b, rfl, hb, hx⟩ := hcut
      have HB := Lib.hid hb; have HX0 := Lib.hid hx
      clear hb hx c0 q0 q1
      go_wp2
      go_loopw [5, 7] (fun s5 i wr => ∃ k : Nat, k ≤ s.cols.length ∧ i = .int .i64 k ∧ Hid (Own 64 4 wr wc.heap.size s5 (uniqTo t s.cols k).length (ixCells (uniqTo t s.cols k))) ∧ Hid (Chg (fun _ => False) wc wr)) (fun _ i _ => s.cols.length - (intOf i).toNat)
      case atStart => exact ⟨0, Nat.zero_le _, rfl, Lib.hid (Own.nil _ _ _ _), Lib.hid (Chg.refl _ _)⟩
      case round =>
        obtain ⟨k, hk, rfl, HO, HX⟩ := hrel
        obtain ⟨so, scap, rfl, hso⟩ := HO.out.form
        clear hso
        have hbt := HX.out.heap HB.out (fun h => h)
        have d0 := cell_of_row wr b 0 _ _ _ hbt
        have d1 := cell_of_row wr b 1 _ _ _ hbt
        have HXX := Lib.hid (HX0.out.trans HX.out (fun _ h => h.elim))
        clear hbt
        by_cases hlt : k < s.cols.length
        · obtain ⟨x, hx⟩ : ∃ x, s.cols[k]? = some x := ⟨_, List.getElem?_eq_getElem hlt⟩
          obtain ⟨b2, o2, rfl, hbl2, _, q0, q1, q2, q3⟩ := ColsAt.col (w := wr) rfl (RowAt.quiet HCL.out HXX.out) hx
          have HS := Lib.hid (uniqTo_succ (t := t) hx)
          have hul := uniqTo_len t s.cols k
          have hwr : wc.heap.size ≤ wr.heap.size := HX.out.size
          have hwc : w.heap.size ≤ wc.heap.size := HX0.out.size
          obtain ⟨hts, hxs⟩ := HSZ.out k x hx
          clear hx q1 q2
          cases hu : x.un with
          | false =>
            have HU := Lib.hid hu
            rw [hu] at q3
            clear hu
            go_wp2
            go_roundw
            case rel =>
              refine ⟨k + 1, by omega, by go_num, Lib.hid ?_, HX⟩
              rw [HS.out, HU.out]
              simp only [Bool.false_eq_true, if_false, List.append_nil]
              exact HO.out
            case measure => simp [intOf]; omega
          | true =>
            have HU := Lib.hid hu
            rw [hu] at q3
            clear hu
            go_wp2_with (at_builtin; refine own_app ix_ok rfl _ _ rfl wc.heap.size _ (uniqTo t s.cols k).length (ixCells (uniqTo t s.cols k)) rfl (Own.quiet HO.out ((Chg.refl _ _).alloc _)) (fun _ => True) _ 1 (Ix.cells ⟨dotted t x.name, t, (k : Int), false⟩) rfl (row_one (hal_new' ?_) trivial) rfl ?_ ?_ ?_ ?_ ?_)
            · first | rfl | simp
            · intro u hu
              exact ixCells_one [_] u (by rw [ixCells_single]; exact hu)
            · unfold maxLen; omega
            · omega
            · first | omega | (simp; omega)
            · intro v' w2 r2 x2 hat
              obtain ⟨ao2, cap2, rfl, _⟩ := r2.form
              have x4 := ((Chg.refl (fun g => (Value.slice so (uniqTo t s.cols k).length scap).ownBlock = some g) wr).alloc (.cells #[.string (dotted t x.name), .string t, .int .i64 k, .bool false] 64)).trans x2 (fun k h => .inl h)
              have HX2 : Hid (Chg (fun _ => False) wc w2) := Lib.hid ((HX.out.mono (G := fun k => wc.heap.size ≤ k) (fun _ h => h.elim)).trans x4 (fun g h => .inl (HO.out.lo g h)) |>.mono (G := fun _ => False) (fun k hk => .inr hk))
              have HO2 : Hid (Own 64 4 w2 wc.heap.size (.slice ao2 ((uniqTo t s.cols k).length + 1) cap2) (uniqTo t s.cols (k + 1)).length (ixCells (uniqTo t s.cols (k + 1)))) := Lib.hid (by
                rw [HS.out, HU.out]
                simp only [if_true]
                rw [ixCells_app, ixCells_single, List.length_append]
                exact r2)
              clear r2 x2 hat x4 q0 q3
              go_wp2
              go_roundw
              case rel => exact ⟨k + 1, by omega, by go_num, HO2, HX2⟩
              case measure => simp [intOf]; omega
        · have HK := Lib.hid (show k = s.cols.length by omega)
          go_wp2_with fail
          refine (rmade_any lo r K _ _ C t wr (HH.out.quiet HXX.out)).mono ?_
          rintro e w2 ⟨_, rfl, ⟨ao3, cap3, rfl, p3⟩, x3⟩
          have R3 : Hid (IxsAt w2 (fun k => wr.heap.size ≤ k) (.slice ao3 (C.made t).length cap3) (C.made t)) := Lib.hid ⟨ao3, cap3, rfl, p3⟩
          have X3 := Lib.hid x3
          have HO3 := Lib.hid (HO.out.quiet x3)
          have hsz : wr.heap.size ≤ w2.heap.size := x3.size
          have hwr : wc.heap.size ≤ wr.heap.size := HX.out.size
          have hwc : w.heap.size ≤ wc.heap.size := HX0.out.size
          have hul := uniqTo_len t s.cols k
          have hml := HML.out
          clear p3 x3
          go_wp2_with (at_builtin; refine own_app ix_ok rfl _ _ rfl wc.heap.size _ (uniqTo t s.cols k).length (ixCells (uniqTo t s.cols k)) rfl HO3.out (fun k => wr.heap.size ≤ k) _ (C.made t).length (ixCells (C.made t)) rfl R3.out (ixCells_len _) (ixCells_one _) ?_ ?_ ?_ ?_)
          · unfold maxLen; omega
          · omega
          · omega
          · intro v' w4 r4 x4 hat
            have R4 := Lib.hid r4
            have X4 := Lib.hid ((((HXX.out.trans X3.out (fun _ h => h.elim)).mono (G := fun k => w.heap.size ≤ k) (fun _ h => h.elim)).trans x4 (fun k h => .inl (by have := HO.out.lo k h; show w.heap.size ≤ k; omega))).mono (G := fun _ => False) (fun k hk => .inr hk))
            clear r4 x4 hat
            go_wp2
            go_ret
            refine ⟨_, rfl, ?_, X4.out⟩
            have := R4.out.read.mono (G := fun k => w.heap.size ≤ k) (fun k hk _ => by show w.heap.size ≤ k; omega)
            rw [HE.out]
            unfold uniqOf
            rw [← HK.out]
            show RowAt _ _ _ (uniqTo t s.cols k ++ C.made t).length (ixCells (uniqTo t s.cols k ++ C.made t))
            rw [ixCells_app, List.length_append]
            exact this
end Go.Proofs.Ytpiijcjbphpffaa
