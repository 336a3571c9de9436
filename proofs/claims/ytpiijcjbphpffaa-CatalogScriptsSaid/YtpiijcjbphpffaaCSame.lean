/-
  The laws' comparers, at lists that are the same. No condition beyond each lemma's own.
-/
import Derived.Test.YtpiijcjbphpffaaCVals
set_option autoImplicit false
namespace Go.Proofs.Ytpiijcjbphpffaa
open Go Go.RowKit

set_option maxRecDepth 100000 in
set_option maxHeartbeats 1000000 in
theorem same_any (v u : Value) (F G : Nat → Prop) (l : List Val) (w : World) (hv : ValsAt w F v l) (hu : ValsAt w G u l) (hm : l.length ≤ 9223372036854775807) :
    Calls Try.prog 42 #[v, u] w fun e w' => e = .returned (.bool true) ∧ Chg (fun _ => False) w w' := by
  obtain ⟨ao, cap, rfl, hp⟩ := hv
  obtain ⟨bo, cap2, rfl, hq⟩ := hu
  have HV : Hid (ValsAt w F (.slice ao l.length cap) l) := Lib.hid ⟨ao, cap, rfl, hp⟩
  have HU : Hid (ValsAt w G (.slice bo l.length cap2) l) := Lib.hid ⟨bo, cap2, rfl, hq⟩
  clear hp hq
  go_enter Try.func42, Try.ntmps42
  go_wp2
  go_loopw [5] (fun i wr => ∃ k : Nat, k ≤ l.length ∧ i = .int .i64 k ∧ Hid (Chg (fun _ => False) w wr)) (fun i _ => l.length - (intOf i).toNat)
  case atStart => exact ⟨0, Nat.zero_le _, rfl, Lib.hid (Chg.refl _ _)⟩
  case round =>
    obtain ⟨k, hk, rfl, HX⟩ := hrel
    by_cases hlt : k < l.length
    · obtain ⟨x, hx⟩ : ∃ x, l[k]? = some x := ⟨_, List.getElem?_eq_getElem hlt⟩
      obtain ⟨b1, o1, rfl, _, _, p0, p1, p2⟩ := ValsAt.val (RowAt.quiet HV.out HX.out) hx
      obtain ⟨b2, o2, rfl, _, _, q0, q1, q2⟩ := ValsAt.val (RowAt.quiet HU.out HX.out) hx
      clear hx
      go_wp2
      go_quiet (fail)
      go_wp2
      go_roundw
      case rel => exact ⟨k + 1, by omega, by go_num, Lib.hid (HX.out.drewN _)⟩
      case measure => simp [intOf]; omega
    · go_wp2
      go_ret
      exact ⟨rfl, HX.out⟩
set_option maxRecDepth 100000 in
set_option maxHeartbeats 1000000 in
theorem sameIx_any (v u : Value) (F G : Nat → Prop) (l : List Ix) (w : World) (hv : IxsAt w F v l) (hu : IxsAt w G u l) (hm : l.length ≤ 9223372036854775807) :
    Calls Try.prog 21 #[v, u] w fun e w' => e = .returned (.bool true) ∧ Chg (fun _ => False) w w' := by
  obtain ⟨ao, cap, rfl, hp⟩ := hv
  obtain ⟨bo, cap2, rfl, hq⟩ := hu
  have HV : Hid (IxsAt w F (.slice ao l.length cap) l) := Lib.hid ⟨ao, cap, rfl, hp⟩
  have HU : Hid (IxsAt w G (.slice bo l.length cap2) l) := Lib.hid ⟨bo, cap2, rfl, hq⟩
  clear hp hq
  go_enter Try.func21, Try.ntmps21
  go_wp2
  go_loopw [5] (fun i wr => ∃ k : Nat, k ≤ l.length ∧ i = .int .i64 k ∧ Hid (Chg (fun _ => False) w wr)) (fun i _ => l.length - (intOf i).toNat)
  case atStart => exact ⟨0, Nat.zero_le _, rfl, Lib.hid (Chg.refl _ _)⟩
  case round =>
    obtain ⟨k, hk, rfl, HX⟩ := hrel
    by_cases hlt : k < l.length
    · obtain ⟨x, hx⟩ : ∃ x, l[k]? = some x := ⟨_, List.getElem?_eq_getElem hlt⟩
      obtain ⟨b1, o1, rfl, _, _, p0, p1, p2, p3⟩ := IxsAt.ix (w := wr) rfl (RowAt.quiet HV.out HX.out) hx
      obtain ⟨b2, o2, rfl, _, _, q0, q1, q2, q3⟩ := IxsAt.ix (w := wr) rfl (RowAt.quiet HU.out HX.out) hx
      clear hx
      go_wp2
      go_quiet (fail)
      go_wp2
      go_roundw
      case rel => exact ⟨k + 1, by omega, by go_num, Lib.hid (HX.out.drewN _)⟩
      case measure => simp [intOf]; omega
    · go_wp2
      go_ret
      exact ⟨rfl, HX.out⟩
set_option maxRecDepth 100000 in
set_option maxHeartbeats 1000000 in
theorem sameRows_any (v u : Value) (F G : Nat → Prop) (rows : List (List Val)) (w : World) (hv : RowsAt w F v rows) (hu : RowsAt w G u rows) (hm : rows.length ≤ 9223372036854775807) (hl : ∀ row ∈ rows, row.length ≤ 9223372036854775807) :
    Calls Try.prog 18 #[v, u] w fun e w' => e = .returned (.bool true) ∧ Chg (fun _ => False) w w' := by
  obtain ⟨us, ⟨l1, e1⟩, ao, cap, rfl, hp⟩ := hv
  obtain ⟨vs, ⟨l2, e2⟩, bo, cap2, rfl, hq⟩ := hu
  have HV : Hid (RowAt w F (.slice ao rows.length cap) rows.length us) := Lib.hid ⟨ao, cap, rfl, hp⟩
  have HU : Hid (RowAt w G (.slice bo rows.length cap2) rows.length vs) := Lib.hid ⟨bo, cap2, rfl, hq⟩
  have HE1 := Lib.hid e1; have HE2 := Lib.hid e2; have HL := Lib.hid hl; have HN1 := Lib.hid l1; have HN2 := Lib.hid l2
  clear hp hq e1 e2 hl l1 l2
  go_enter Try.func18, Try.ntmps18
  go_wp2
  go_loopw [5] (fun i wr => ∃ k : Nat, k ≤ rows.length ∧ i = .int .i64 k ∧ Hid (Chg (fun _ => False) w wr)) (fun i _ => rows.length - (intOf i).toNat)
  case atStart => exact ⟨0, Nat.zero_le _, rfl, Lib.hid (Chg.refl _ _)⟩
  case round =>
    obtain ⟨k, hk, rfl, HX⟩ := hrel
    by_cases hlt : k < rows.length
    · obtain ⟨x, hx⟩ : ∃ x, rows[k]? = some x := ⟨_, List.getElem?_eq_getElem hlt⟩
      obtain ⟨y1, hy1⟩ : ∃ y, us[k]? = some y := ⟨_, List.getElem?_eq_getElem (by rw [HN1.out]; exact hlt)⟩
      obtain ⟨y2, hy2⟩ : ∃ y, vs[k]? = some y := ⟨_, List.getElem?_eq_getElem (by rw [HN2.out]; exact hlt)⟩
      have hq1 := RowAt.quiet HV.out HX.out
      have hq2 := RowAt.quiet HU.out HX.out
      obtain ⟨a3, k3, h3, hp3⟩ := hq1
      obtain ⟨a4, k4, h4, hp4⟩ := hq2
      simp only [Value.slice.injEq] at h3 h4
      obtain ⟨rfl, _, rfl⟩ := h3
      obtain ⟨rfl, _, rfl⟩ := h4
      obtain ⟨b1, o1, rfl, _, _, r1⟩ := hp3 (by omega)
      obtain ⟨b2, o2, rfl, _, _, r2⟩ := hp4 (by omega)
      have c1 := r1 k _ hy1
      have c2 := r2 k _ hy2
      have f1 := lt_of_cell c1
      have f2 := lt_of_cell c2
      have V1 := Lib.hid (HE1.out k x y1 hx hy1).1
      have V2 := Lib.hid (HE2.out k x y2 hx hy2).1
      have hxl := HL.out x (List.mem_of_getElem? hx)
      have C1 := Lib.hid c1; have C2 := Lib.hid c2
      clear hp3 hp4 r1 r2 hx hy1 hy2
      have hS : ∀ W, Chg (fun _ => False) wr W → W.cell? ⟨b1, o1 + k, none⟩ = some y1 ∧ W.cell? ⟨b2, o2 + k, none⟩ = some y2 := fun W hW => ⟨(cell_of_heap (hW.keep b1 f1 (fun h => h))).trans C1.out, (cell_of_heap (hW.keep b2 f2 (fun h => h))).trans C2.out⟩
      have HS := Lib.hid hS
      clear hS c1 c2
      go_wp2
      refine wp_region_lex (fun W => W.cell? ⟨b1, o1 + k, none⟩ = some y1 ∧ W.cell? ⟨b2, o2 + k, none⟩ = some y2) 9 [8, 9] [0, 1, 2, 3, 4, 5, 6, 7, 8, 9] (by kernel_rfl) (by kernel_rfl) (HS.out _ (Chg.refl _ _).drew) ?_
      iterate 8
        refine' lex_free (v := _) rfl rfl rfl ?_ (fun _ _ _ h => h) ?_
        rotate_left
        · rintro W ⟨hW1, hW2⟩
          go_simp
          with_reducible rfl
        try simp only [Act.put, List.setIfInBounds_toArray, List.set_cons_zero, List.set_cons_succ]
      refine lex_op rfl rfl rfl (fun K hK => ?_)
      go_simp
      refine (same_any y1 y2 F G x wr.drew (RowAt.quiet V1.out HX.out.drew) (RowAt.quiet V2.out HX.out.drew) hxl).mono ?_
      rintro e w5 ⟨rfl, x5⟩
      have X5 := Lib.hid ((Chg.refl (fun _ => False) wr).drew.trans x5 (fun _ h => h.elim))
      clear x5
      refine hK _ _ (fun _ => HS.out _ X5.out) ?_
      clear hK K
      try simp only [Act.put, List.setIfInBounds_toArray, List.set_cons_zero, List.set_cons_succ]
      refine lex_op rfl rfl rfl (fun K hK => ?_)
      go_simp
      refine hK _ _ (fun h => absurd rfl h) ?_
      clear hK K
      try simp only [Act.put, List.setIfInBounds_toArray, List.set_cons_zero, List.set_cons_succ]
      refine lex_nil ?_
      go_wp2
      go_roundw
      case rel => exact ⟨k + 1, by omega, by go_num, Lib.hid (HX.out.trans X5.out (fun _ h => h.elim))⟩
      case measure => simp [intOf]; omega
    · go_wp2
      go_ret
      exact ⟨rfl, HX.out⟩
end Go.Proofs.Ytpiijcjbphpffaa
