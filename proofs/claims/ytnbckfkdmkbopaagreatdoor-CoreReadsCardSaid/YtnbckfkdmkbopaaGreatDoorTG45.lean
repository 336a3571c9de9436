/-
  What a read that is chosen leaves out, the condition does not hold for: so nothing is lost. No condition.
  Rows: the same rows are the same. No condition beyond each lemma's own.
-/
import Derived.Test.YtnbckfkdmkbopaaGreatDoorTG43
import Derived.Test.YtnbckfkdmkbopaaGreatDoorTG44
import Derived.Test.YtnbckfkdmkbopaaGreatDoorTG24
set_option autoImplicit false
namespace Go.Proofs.YtnbckfkdmkbopaaGreatDoor
open Go Go.RowKit

theorem holds_out (cs : List Bcol) (r : RdF) (y : Ex) (hok : r.ok (questL cs y)) (row : List Val) (hr : rowOk cs row) (hn : ∀ v ∈ row, v.num ≤ 9223372036854775807) (h : covB r row = false) : holdsV row y = (false, 0) := by
  have h1 := quest_false cs row hr hn y (covB_law hok row h)
  unfold holdsV
  rw [h1]
  rfl
theorem filt_same (cs : List Bcol) (r : RdF) (y : Ex) (hok : r.ok (questL cs y)) : ∀ (rows : List (List Val)), (∀ row ∈ rows, rowOk cs row) → (∀ row ∈ rows, ∀ v ∈ row, v.num ≤ 9223372036854775807) → filtOut y (rows.filter (covB r)) = filtOut y rows := by
  intro rows
  induction rows with
  | nil => intro _ _; rfl
  | cons a l ih =>
    intro h1 h2
    have ih := ih (fun q hq => h1 q (.tail _ hq)) (fun q hq => h2 q (.tail _ hq))
    cases hc : covB r a with
    | false =>
      have h := holds_out cs r y hok a (h1 a (.head _)) (h2 a (.head _)) hc
      rw [List.filter_cons_of_neg (by simp [hc]), ih]
      unfold filtOut
      rw [List.filter_cons_of_neg (by simp [h])]
    | true =>
      rw [List.filter_cons_of_pos hc]
      unfold filtOut at ih ⊢
      simp only [List.filter_cons, ih]
theorem filt_err (cs : List Bcol) (r : RdF) (y : Ex) (hok : r.ok (questL cs y)) (rows : List (List Val)) : ∀ e0 : Int, (∀ row ∈ rows, rowOk cs row) → (∀ row ∈ rows, ∀ v ∈ row, v.num ≤ 9223372036854775807) → (rows.filter (covB r)).foldl (fun l q => seeE l (holdsV q y).2) e0 = rows.foldl (fun l q => seeE l (holdsV q y).2) e0 := by
  induction rows with
  | nil => intro _ _ _; rfl
  | cons a l ih =>
    intro e0 h1 h2
    have ih := fun e => ih e (fun q hq => h1 q (.tail _ hq)) (fun q hq => h2 q (.tail _ hq))
    cases hc : covB r a with
    | false =>
      have h := holds_out cs r y hok a (h1 a (.head _)) (h2 a (.head _)) hc
      rw [List.filter_cons_of_neg (by simp [hc]), ih, List.foldl_cons, h]
      rfl
    | true => rw [List.filter_cons_of_pos hc, List.foldl_cons, List.foldl_cons, ih]
theorem filtRes_same (cs : List Bcol) (r : RdF) (y : Ex) (hok : r.ok (questL cs y)) (rows : List (List Val)) (h1 : ∀ row ∈ rows, rowOk cs row) (h2 : ∀ row ∈ rows, ∀ v ∈ row, v.num ≤ 9223372036854775807) : filtErr y (rows.filter (covB r)) = filtErr y rows ∧ filtRes y (rows.filter (covB r)) = filtRes y rows := by
  have h := filt_err cs r y hok rows 0 h1 h2
  have h3 : filtErr y (rows.filter (covB r)) = filtErr y rows := h
  refine ⟨h3, ?_⟩
  unfold filtRes
  rw [h3, filt_same cs r y hok rows h1 h2]
theorem asked_ty {text : Str} {x y : Ex} (h : askedL text = some (x, y)) : ∃ t, tyL cols4 y = some t ∧ (t = 2 ∨ t = 0) := by
  unfold askedL at h
  split at h
  · cases h
  · split at h
    · cases h
    · rename_i y' t hb
      split at h
      · rename_i hc
        cases h
        exact ⟨t, bind_ty _ _ _ _ hb, by simpa using hc⟩
      · cases h
end Go.Proofs.YtnbckfkdmkbopaaGreatDoor

set_option autoImplicit false
namespace Go.Proofs.YtnbckfkdmkbopaaGreatDoor
open Go Go.RowKit
attribute [local go_sem ↓] eql_val

theorem isV_refl (v : Val) : v.isV v = true := Val.isV_iff.2 rfl
set_option maxRecDepth 100000 in
set_option maxHeartbeats 1000000 in
theorem same01_any (row : List Val) (F G : Nat → Prop) (ao ao2 : Option Addr) (cap cap2 : Nat) (hm : row.length ≤ 1000000) (w : World) (h : ValsAt w F (.slice ao row.length cap) row) (h2 : ValsAt w G (.slice ao2 row.length cap2) row) :
    Calls Tryz.prog 32 #[.slice ao row.length cap, .slice ao2 row.length cap2] w fun e w' => e = .returned (.bool true) ∧ Chg NoB w w' := by
  have H := Lib.hid h
  have H2 := Lib.hid h2
  have hb : ((row.length : Int) != row.length) = false := by simp
  clear h h2
  go_enter Tryz.func32, Tryz.ntmps32
  go_wp2_with fail
  go_loopw [5] (fun i wr => ∃ j : Nat, i = .int .i64 j ∧ j ≤ row.length ∧ Hid (Chg NoB w wr)) (fun i _ => (row.length - intOf i).toNat)
  case atStart => exact ⟨0, rfl, Nat.zero_le _, Lib.hid (Chg.refl _ _)⟩
  case round =>
    obtain ⟨j, rfl, hj, HX⟩ := hrel
    by_cases hlt : j < row.length
    · obtain ⟨v, hv⟩ : ∃ v, row[j]? = some v := ⟨_, List.getElem?_eq_getElem hlt⟩
      obtain ⟨ao', cap', e, hh⟩ := H.out
      obtain ⟨b, o, rfl, hbl, hF, hr⟩ := hh (by omega)
      cases e
      obtain ⟨ao', cap', e, hh2⟩ := H2.out
      obtain ⟨b2, o2, rfl, hbl2, hG, hr2⟩ := hh2 (by omega)
      cases e
      have q := range_of_heap (HX.out.keep b hbl (fun h => h)) (range_elem (s := 3) hr (fun _ => rfl) hv)
      have q2 := range_of_heap (HX.out.keep b2 hbl2 (fun h => h)) (range_elem (s := 3) hr2 (fun _ => rfl) hv)
      have a0 : wr.cell? ⟨b, o + j * 3, none⟩ = some (.int .i64 v.kind) := q 0 _ rfl
      have a1 : wr.cell? ⟨b, o + j * 3 + 1, none⟩ = some (.int .i64 v.num) := q 1 _ rfl
      have a2 : wr.cell? ⟨b, o + j * 3 + 2, none⟩ = some (sv v.str) := q 2 _ rfl
      have d0 : wr.cell? ⟨b2, o2 + j * 3, none⟩ = some (.int .i64 v.kind) := q2 0 _ rfl
      have d1 : wr.cell? ⟨b2, o2 + j * 3 + 1, none⟩ = some (.int .i64 v.num) := q2 1 _ rfl
      have d2 : wr.cell? ⟨b2, o2 + j * 3 + 2, none⟩ = some (sv v.str) := q2 2 _ rfl
      have hji : (j : Int) < row.length := by omega
      have hvv := isV_refl v
      clear hv hh hh2 hr hr2 q q2
      go_wp2_with fail
      go_quiet (fail)
      go_wp2_with fail
      go_round
      case rel => exact ⟨j + 1, by go_num, by omega, Lib.hid (HX.out.drewN _)⟩
      case measure => simp [intOf]; omega
    · obtain rfl : j = row.length := by omega
      go_wp2_with fail
      go_ret
      exact ⟨rfl, HX.out⟩
set_option maxRecDepth 100000 in
set_option maxHeartbeats 1000000 in
theorem same15_any (rows : List (List Val)) (F G : Nat → Prop) (ao ao2 : Option Addr) (cap cap2 : Nat) (hm : rows.length ≤ 1000000) (hr : ∀ r ∈ rows, r.length ≤ 1000000) (w : World) (h : RowsAt w F (.slice ao rows.length cap) rows) (h2 : RowsAt w G (.slice ao2 rows.length cap2) rows) :
    Calls Tryz.prog 12 #[.slice ao rows.length cap, .slice ao2 rows.length cap2] w fun e w' => e = .returned (.bool true) ∧ Chg NoB w w' := by
  have H := Lib.hid h
  have H2 := Lib.hid h2
  have HR := Lib.hid hr
  have hb : ((rows.length : Int) != rows.length) = false := by simp
  clear h h2 hr
  go_enter Tryz.func12, Tryz.ntmps12
  go_wp2_with fail
  go_loopw [5] (fun i wr => ∃ j : Nat, i = .int .i64 j ∧ j ≤ rows.length ∧ Hid (Chg NoB w wr)) (fun i _ => (rows.length - intOf i).toNat)
  case atStart => exact ⟨0, rfl, Nat.zero_le _, Lib.hid (Chg.refl _ _)⟩
  case round =>
    obtain ⟨j, rfl, hj, HX⟩ := hrel
    by_cases hlt : j < rows.length
    · obtain ⟨r, hrr⟩ : ∃ r, rows[j]? = some r := ⟨_, List.getElem?_eq_getElem hlt⟩
      obtain ⟨b, o, a1, c1, rfl, hb1, _, hc1, hv1⟩ := (H.out.quiet HX.out).row hrr
      obtain ⟨b2, o2, a2, c2, rfl, hb2, _, hc2, hv2⟩ := (H2.out.quiet HX.out).row hrr
      have HV1 := Lib.hid hv1
      have HV2 := Lib.hid hv2
      have hl := HR.out r (List.mem_of_getElem? hrr)
      have hji : (j : Int) < rows.length := by omega
      have HS : Hid (∀ V, Chg NoB wr V → V.cell? ⟨b, o + j, none⟩ = some (.slice a1 r.length c1) ∧ V.cell? ⟨b2, o2 + j, none⟩ = some (.slice a2 r.length c2)) := Lib.hid fun V c => ⟨(cell_of_heap (c.keep b hb1 (fun h => h))).trans hc1, (cell_of_heap (c.keep b2 hb2 (fun h => h))).trans hc2⟩
      clear hrr hv1 hv2 hc1 hc2
      go_wp2_with fail
      refine wp_region_lex (fun V => V.cell? ⟨b, o + j, none⟩ = some (.slice a1 r.length c1) ∧ V.cell? ⟨b2, o2 + j, none⟩ = some (.slice a2 r.length c2)) 99 [8] [0, 1, 2, 3, 4, 5, 6, 7, 8, 9] (by kernel_rfl) (by kernel_rfl) (HS.out _ (Chg.refl _ _).drew) ?_
      iterate 8
        refine' lex_free (v := _) rfl rfl rfl ?_ (fun _ _ _ h => h) ?_
        rotate_left
        · rintro W ⟨h1, h2⟩
          go_simp
          with_reducible rfl
        try simp only [Act.put, List.setIfInBounds_toArray, List.set_cons_zero, List.set_cons_succ]
      refine lex_op rfl rfl rfl (fun K hK => ?_)
      go_simp
      refine (same01_any r F G a1 a2 c1 c2 hl _ (RowAt.quiet HV1.out (Chg.refl _ _).drew) (RowAt.quiet HV2.out (Chg.refl _ _).drew)).mono ?_
      rintro e w2 ⟨rfl, c2'⟩
      have C2 := Lib.hid ((Chg.refl NoB wr).drew.trans c2' (fun _ h => .inl h))
      have X2 := Lib.hid (HX.out.trans C2.out (fun _ h => .inl h))
      refine hK _ _ (fun _ => HS.out _ C2.out) ?_
      clear hK K
      try simp only [Act.put, List.setIfInBounds_toArray, List.set_cons_zero, List.set_cons_succ]
      iterate 1
        refine' lex_free (v := _) rfl rfl rfl ?_ (fun _ _ _ h => h) ?_
        rotate_left
        · rintro W ⟨h1, h2⟩
          go_simp
          with_reducible rfl
        try simp only [Act.put, List.setIfInBounds_toArray, List.set_cons_zero, List.set_cons_succ]
      refine lex_nil ?_
      go_wp2_with fail
      go_round
      case rel => exact ⟨j + 1, by go_num, by omega, X2⟩
      case measure => simp [intOf]; omega
    · obtain rfl : j = rows.length := by omega
      go_wp2_with fail
      go_ret
      exact ⟨rfl, HX.out⟩
end Go.Proofs.YtnbckfkdmkbopaaGreatDoor
