/-
  What the document's Tables does: the least name above the last one first. No condition beyond each lemma's own.
-/
import Derived.Test.YtpiijcjbphpffaaCRMade
import Derived.Test.YtpiijcjbphpffaaCTables
set_option autoImplicit false
namespace Go.Proofs.Ytpiijcjbphpffaa
open Go Go.RowKit
attribute [local go_sem] field_tab0 field_tab1 gtr_eq

theorem tab_cell {w : World} {F K : Nat → Prop} {ts : List Tab} {us : List Value} {ao : Option Addr} {cap : Nat} (h1 : ColsEach w K ts us) (h2 : RowAt w F (.slice ao ts.length cap) ts.length (tabCells ts us)) {i : Nat} {t : Tab} (hi : ts[i]? = some t) :
    ∃ b o a1 k1, ao = some ⟨b, o, none⟩ ∧ b < w.heap.size ∧ F b ∧ w.cell? ⟨b, o + i * 2, none⟩ = some (.string t.name) ∧ w.cell? ⟨b, o + i * 2 + 1, none⟩ = some (.slice a1 t.cols.length k1) ∧ ColsAt w K (.slice a1 t.cols.length k1) t.cols := by
  obtain ⟨ao', cap', hv', hp⟩ := h2
  simp only [Value.slice.injEq] at hv'
  obtain ⟨rfl, _, rfl⟩ := hv'
  have hlt := (List.getElem?_eq_some_iff.1 hi).1
  obtain ⟨b, o, rfl, hb, hf, hr⟩ := hp (by omega)
  obtain ⟨u, hu⟩ : ∃ u, us[i]? = some u := ⟨_, List.getElem?_eq_getElem (by have := h1.1; omega)⟩
  obtain ⟨a1, k1, rfl, hq⟩ := h1.2 i t u hi hu
  have hz : (ts.zip us)[i]? = some (t, .slice a1 t.cols.length k1) := by
    rw [List.getElem?_zip_eq_some]
    exact ⟨hi, hu⟩
  have he := range_elem (f := fun p : Tab × Value => [Value.string p.1.name, p.2]) (s := 2) hr (fun _ => rfl) hz
  exact ⟨b, o, a1, k1, rfl, hb, hf, he 0 _ rfl, he 1 _ rfl, a1, k1, rfl, hq⟩
theorem RAt.tab {w : World} {lo r : Nat} {K : Nat → Prop} {ao : Option Addr} {cap : Nat} {vi : Value} {C : Cat} (h : RAt w lo r K (.slice ao C.T.length cap) vi C) {i : Nat} {t : Tab} (hi : C.T[i]? = some t) :
    ∃ b o a1 k1, ao = some ⟨b, o, none⟩ ∧ b < w.heap.size ∧ w.cell? ⟨b, o + i * 2, none⟩ = some (.string t.name) ∧ w.cell? ⟨b, o + i * 2 + 1, none⟩ = some (.slice a1 t.cols.length k1) ∧ ColsAt w K (.slice a1 t.cols.length k1) t.cols := by
  obtain ⟨us, h1, h2⟩ := h.T
  obtain ⟨b, o, a1, k1, q0, q1, _, q2, q3, q4⟩ := tab_cell h2 h1.read hi
  exact ⟨b, o, a1, k1, q0, q1, q2, q3, q4⟩
theorem tabs_sorts {C : Cat} (h : C.ok) : Sorts Tab.name (fun _ => true) C.T C.tables := by
  refine ⟨by rw [List.filter_eq_self.2 (fun _ _ => rfl)]; exact byNameT_perm _, byNameT_rises _, ?_, fun x hx => ?_⟩
  · exact ((byNameT_perm C.T).map (·.name)).nodup_iff.2 h.tn
  · exact (nameB_size (mayB_len (h.tm x ((byNameT_perm C.T).mem_iff.1 hx))).2.2.1).1
theorem tables_len (C : Cat) : C.tables.length = C.T.length := (byNameT_perm C.T).length_eq
theorem rtables_nil (w : World) : Calls Try.prog 39 #[.pointer none] w fun e w' => e = .returned (.slice none 0 0) ∧ w = w' := by
  go_enter Try.func39, Try.ntmps39
  go_wp2
  go_ret
  exact ⟨rfl, rfl⟩
set_option maxRecDepth 100000 in
set_option maxHeartbeats 4000000 in
theorem rtables_any (lo r : Nat) (K : Nat → Prop) (vt vi : Value) (C : Cat) (w : World) (h : RAt w lo r K vt vi C) :
    Calls Try.prog 39 #[.pointer (some ⟨r, 0, none⟩)] w fun e w' => ∃ v, e = .returned v ∧ TabsAt w' (fun k => K k ∨ w.heap.size ≤ k) v C.tables ∧ Chg (fun _ => False) w w' := by
  obtain ⟨⟨ao, cap, rfl⟩, bo, cap2, rfl⟩ := h.form
  have HH := Lib.hid h
  have HS := Lib.hid (tabs_sorts h.ok)
  have hml := h.ok.t16
  have HSL := Lib.hid (tables_len C)
  generalize hS : C.tables = S at *
  have HE := Lib.hid hS
  clear h hS
  go_enter Try.func39, Try.ntmps39
  go_wp2
  go_loopw [3, 4, 5] (fun s last i wr => ∃ (k : Nat) (us : List Value), k ≤ C.T.length ∧ last = .string (lastOf Tab.name S k) ∧ i = .int .i64 k ∧ Hid (Own 27 2 wr w.heap.size s k (tabCells (S.take k) us)) ∧ Hid (ColsEach wr K (S.take k) us) ∧ Hid (Chg (fun _ => False) w wr)) (fun _ _ i _ => C.T.length - (intOf i).toNat)
  case atStart => exact ⟨0, [], Nat.zero_le _, rfl, rfl, Lib.hid (Own.nil _ _ _ _), Lib.hid ⟨by simp, fun i t u ht _ => by simp at ht⟩, Lib.hid (Chg.refl _ _)⟩
  case round =>
    obtain ⟨k, us, hk, rfl, rfl, HO, HU, HX⟩ := hrel
    obtain ⟨so, scap, rfl, hso⟩ := HO.out.form
    clear hso
    have h3 := HH.out.quiet HX.out
    obtain ⟨c0, c1, c2⟩ := h3.cells
    clear h3 c1
    by_cases hkl : k < C.T.length
    · obtain ⟨w3, hw3⟩ : ∃ w3, w3 = wr := ⟨_, rfl⟩
      subst hw3
      go_wp2
      clear c0 c2
      go_loopw [6, 7] (fun b s wr => ∃ (n : Nat) (o : Option Nat), n ≤ C.T.length ∧ s = .int .i64 n ∧ b = .int .i64 (bI o) ∧ Hid (Best Tab.name (fun _ => true) C.T (lastOf Tab.name S k) n o) ∧ Hid (Chg (fun _ => False) w3 wr)) (fun _ s _ => C.T.length - (intOf s).toNat)
      case atStart => exact ⟨0, none, Nat.zero_le _, rfl, rfl, Lib.hid Best.zero, Lib.hid (Chg.refl _ _)⟩
      case round =>
        obtain ⟨n, o, hn, rfl, rfl, HB, HY⟩ := hrel
        have h4 := HH.out.quiet (HX.out.trans HY.out (fun _ h => h.elim))
        obtain ⟨c0, c1, c2⟩ := h4.cells
        by_cases hlt : n < C.T.length
        · obtain ⟨x, hx⟩ : ∃ x, C.T[n]? = some x := ⟨_, List.getElem?_eq_getElem hlt⟩
          obtain ⟨b, of, a1, k1, rfl, hbl, q0, q1, _⟩ := RAt.tab h4 hx
          have H4 := Lib.hid h4; have HG := Lib.hid hx
          clear h4 hx c1 q1
          cases hl : nLt (lastOf Tab.name S k) x.name with
          | false =>
            have HL := Lib.hid hl
            go_wp2
            go_quiet (fail)
            go_wp2
            go_roundw
            case rel => exact ⟨n + 1, o, by omega, by go_num, rfl, Lib.hid (HB.out.skip HG.out (.inr HL.out)), Lib.hid (HY.out.drewN _)⟩
            case measure => simp [intOf]; omega
          | true =>
            have HL := Lib.hid hl
            cases o with
            | none =>
              rw [bI_none]
              go_wp2
              go_quiet (fail)
              go_wp2
              go_roundw
              case rel => exact ⟨n + 1, some n, by omega, by go_num, rfl, Lib.hid (Best.first HB.out HG.out rfl HL.out), Lib.hid (HY.out.drewN _)⟩
              case measure => simp [intOf]; omega
            | some i =>
              rw [bI_some]
              obtain ⟨z, hz1, hz, _⟩ := HB.out
              obtain ⟨b2, o2, a2, k2, he2, _, p0, p1, _⟩ := RAt.tab H4.out hz
              simp only [Option.some.injEq, Addr.mk.injEq] at he2
              obtain ⟨rfl, rfl, _⟩ := he2
              have HZ := Lib.hid hz
              have hzl : i < C.T.length := by omega
              have hzn : decide ((i : Int) < 0) = false := by simp
              clear hz p1
              cases hc : nLt x.name z.name with
              | false =>
                have HC := Lib.hid hc
                rw [nLt_less] at hc
                go_wp2
                go_quiet (fail)
                go_wp2
                go_roundw
                case rel => exact ⟨n + 1, some i, by omega, by go_num, rfl, Lib.hid (Best.keep HB.out HG.out HZ.out HC.out), Lib.hid (HY.out.drewN _)⟩
                case measure => simp [intOf]; omega
              | true =>
                have HC := Lib.hid hc
                rw [nLt_less] at hc
                go_wp2
                go_quiet (fail)
                go_wp2
                go_roundw
                case rel => exact ⟨n + 1, some n, by omega, by go_num, rfl, Lib.hid (Best.turn HB.out HG.out HZ.out rfl HL.out HC.out), Lib.hid (HY.out.drewN _)⟩
                case measure => simp [intOf]; omega
        · have HN := Lib.hid (show n = C.T.length by omega)
          have HB2 : Hid (Best Tab.name (fun _ => true) C.T (lastOf Tab.name S k) C.T.length o) := Lib.hid (by have := HB.out; rw [HN.out] at this; exact this)
          clear HB
          cases o with
          | none =>
            exfalso
            have := HS.out.none_at (by rw [HSL.out]; exact hk) HB2.out
            rw [HSL.out] at this
            omega
          | some i =>
            rw [bI_some]
            obtain ⟨z, hz1, hz, _⟩ := HB2.out
            have hz0 := Lib.hid hz
            obtain ⟨b, of, a1, k1, rfl, hbl, q0, q1, qc⟩ := RAt.tab h4 hz
            have HQ := Lib.hid qc
            have HZ := Lib.hid (HS.out.some_at (by rw [HSL.out]; exact hk) HB2.out hz)
            have hwr : w.heap.size ≤ wr.heap.size := (HX.out.trans HY.out (fun _ h => h.elim)).size
            have H4 := Lib.hid h4
            clear hz h4 qc c1
            go_wp2_with (at_builtin; refine own_app tab_ok rfl _ _ rfl w.heap.size _ k (tabCells (S.take k) us) rfl (Own.quiet HO.out (HY.out.alloc _)) (fun _ => True) _ 1 [.string z.name, .slice a1 z.cols.length k1] rfl (row_one (hal_new' ?_) trivial) rfl ?_ ?_ ?_ ?_ ?_)
            · first | rfl | simp
            · exact ⟨rfl, rfl⟩
            · unfold maxLen; omega
            · omega
            · first | omega | (simp; omega)
            · intro v' w5 r5 x5 hat
              obtain ⟨ao5, cap5, rfl, _⟩ := r5.form
              have y5 := ((Chg.refl (fun g => (Value.slice so k scap).ownBlock = some g) wr).alloc (.cells #[.string z.name, .slice a1 z.cols.length k1] 27)).trans x5 (fun k h => .inl h)
              have HX5 := Lib.hid ((((HX.out.trans HY.out (fun _ h => h.elim)).mono (G := fun k => w.heap.size ≤ k) (fun _ h => h.elim)).trans y5 (fun k h => .inl (HO.out.lo k h))).mono (G := fun _ => False) (fun k hk => .inr hk))
              have hT1 : S.take (k + 1) = S.take k ++ [z] := by rw [List.take_add_one, HZ.out]; rfl
              have hKS : ∀ g, K g → ¬ (Value.slice so k scap).ownBlock = some g := fun g hg h => by
                have h1 := HO.out.lo g h
                have h2 := HH.out.k_lt g hg
                omega
              have HO5 : Hid (Own 27 2 w5 w.heap.size (.slice ao5 (k + 1) cap5) (k + 1) (tabCells (S.take (k + 1)) (us ++ [.slice a1 z.cols.length k1]))) := Lib.hid (by
                rw [hT1, tabCells_app HU.out.1]
                exact r5)
              have HU5 : Hid (ColsEach w5 K (S.take (k + 1)) (us ++ [.slice a1 z.cols.length k1])) := Lib.hid (by
                rw [hT1]
                exact ((HU.out.chg HY.out (fun _ _ h => h)).chg y5 hKS).app (RowAt.chg HQ.out y5 hKS))
              have h5 := HH.out.quiet HX5.out
              obtain ⟨c0, c1, c2⟩ := h5.cells
              obtain ⟨b2, o2, a2, k2, he2, _, p0, p1, _⟩ := RAt.tab h5 hz0.out
              simp only [Option.some.injEq, Addr.mk.injEq] at he2
              obtain ⟨rfl, rfl, _⟩ := he2
              clear r5 x5 hat y5 h5 q0 q1 p1 c1 hT1 hKS
              go_wp2
              go_roundw
              case rel => exact ⟨k + 1, _, by omega, by rw [lastOf_succ HZ.out], by go_num, HO5, HU5, HX5⟩
              case measure => simp [intOf]; omega
    · have HK := Lib.hid (show k = S.length by rw [HSL.out]; omega)
      go_wp2
      go_ret
      refine ⟨_, rfl, ⟨us, ?_, ?_⟩, HX.out⟩
      · have := HU.out
        rw [HK.out, List.take_length] at this
        exact this.mono (fun g hg _ => .inl hg)
      · have := HO.out.read
        rw [HK.out, List.take_length] at this
        rw [HK.out]
        exact this.mono (fun g hg _ => .inr hg)
end Go.Proofs.Ytpiijcjbphpffaa
