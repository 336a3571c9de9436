/-
  What the disk's Clone makes. Conditions: a disk stands at the address, fewer than 3000000000000 writes wait.
-/
import Derived.Test.YtihpobpkhhkejaaDiskN
import Derived.Shelf.SlMaps.Clone
set_option autoImplicit false
namespace Go.Proofs.Ytihpobpkhhkejaa
open Go Go.RowKit

set_option maxRecDepth 100000 in
theorem mclone_any (b : Nat) (es : Array MapEntry) (clock : Nat) (w : World) (hb : w.heap[b]? = some (.map es clock)) :
    Calls Try.prog 47 #[.map (some b)] w fun e w' => e = .returned (.map (some w.heap.size)) ∧ w.alloc (.map es clock) = w' := by
  have hq := fun w => run_eql_map_nil_sl (P := Try.prog) w 88 _ _ (some b) Try.underlying88
  have HB := Lib.hid hb
  clear hb
  go_enter Try.func47, Try.ntmps47
  go_wp2
  rw [run_callFunc_extern Try.func61 (by kernel_rfl) (by kernel_rfl) (by kernel_rfl) (e := Extern.MapsClone.clone) (by kernel_rfl), run_maps_clone_sl w 88 HB.out]
  simp only [Result.andThen]
  rw [Oper.upon_value]
  go_wp2
  rw [run_typeAssert_map_sl _ 88 _ _ _ _ Try.underlying88]
  simp only [Result.andThen]
  rw [Oper.upon_value]
  go_wp2
  go_ret
  exact ⟨rfl, rfl⟩
theorem mclone_new (b : Nat) (es : Array MapEntry) (clock : Nat) (w : World) (hb : w.heap[b]? = some (.map es clock)) :
    Calls Try.prog 47 #[.map (some b)] w fun e w' => ∃ b', e = .returned (.map (some b')) ∧ w'.heap[b']? = some (.map es clock) ∧ w.heap.size ≤ b' ∧ b' < w'.heap.size ∧ Chg (fun _ => False) w w' :=
  (mclone_any b es clock w hb).mono fun e w' ⟨he, hw⟩ => by
    subst hw
    exact ⟨_, he, hal_new, Nat.le_refl _, by simp, (Chg.refl _ w).alloc _⟩
theorem flatMap_one (l : List (Int × Sec)) : ∀ u ∈ l.flatMap wrC, u.oneCell' = true := by
  intro u hu
  obtain ⟨x, _, hx⟩ := List.mem_flatMap.1 hu
  exact wrC_one x u hx
theorem sclone_any (v : Value) (n : Nat) (xs : List Value) (w : World) (h : w.ownsRow 0 94 65 v n xs) (h1 : ∀ u ∈ xs, u.oneCell' = true) (hn : n < 3000000000000) :
    Calls Try.prog 48 #[v] w fun e w' => ∃ v', e = .returned v' ∧ w'.ownsRow 0 94 65 v' n xs ∧ (∀ g, v'.ownBlock = some g → w.heap.size ≤ g ∧ g < w'.heap.size) ∧ Chg (fun _ => False) w w' := by
  obtain ⟨ao, c, rfl, hao⟩ := ownsRow_form h
  have hq := fun w => Lib.run_eql_slice_nil (P := Try.prog) w 89 _ ao n c 0 0 Try.underlying89
  have HH := Lib.hid h; have HA := Lib.hid hao
  clear h hao
  cases ao with
  | none =>
    go_enter Try.func48, Try.ntmps48
    go_wp2
    go_ret
    rcases HH.out.2 with ⟨h1, rfl⟩ | ⟨g, cap, cur, h1, _⟩
    · refine ⟨_, rfl, ?_, fun g hg => by simp [Value.ownBlock] at hg, Chg.refl _ _⟩
      rw [← h1]; exact HH.out
    · cases h1
  | some a =>
    obtain ⟨i0, z0, hi0, hz0, hs0, hb0, hzs0⟩ := wr_info
    have HI0 := Lib.hid hi0; have HZ0 := Lib.hid hz0; have HS0 := Lib.hid hs0; have HB0 := Lib.hid hb0; have HZS0 := Lib.hid hzs0
    clear hi0 hz0 hs0 hb0 hzs0
    have ho : (w.alloc (.cells #[] 94)).ownsRow 0 94 65 (.slice (some ⟨w.heap.size, 0, none⟩) 0 0) 0 [] := World.ownsRow_made w #[] 0 (Nat.zero_le _) (Nat.zero_le _) (by simp)
    have hg : a.block < w.heap.size ∧ (∀ j u, xs[j]? = some u → w.cell? (a.add j) = some u) ∧ xs.length = n * 65 := by
      rcases HH.out.2 with ⟨h1, _⟩ | ⟨g, cap, cur, h2, _⟩
      · cases h1
      · simp only [Value.slice.injEq, Option.some.injEq] at h2
        obtain ⟨rfl, _, rfl⟩ := h2
        exact ⟨(HH.out.lt g rfl).2, HH.out.cells (g := g) rfl, HH.out.1⟩
    have HO := Lib.hid ho; have HG := Lib.hid hg; have H1 := Lib.hid h1
    clear ho hg h1
    go_enter Try.func48, Try.ntmps48
    go_wp2_with (at_builtin; refine wpList_app _ rfl _ _ 89 rfl 94 i0 z0 65 72 Try.underlying89 HI0.out HZ0.out HS0.out HB0.out HZS0.out _ 0 [] rfl HO.out _ n c xs rfl HG.out.2.2 (fun h => by cases h) ?_ H1.out ?_ ?_ ?_)
    · intro ad had
      obtain rfl := Option.some.inj had
      intro j u hj
      have := HG.out.2.1 j u hj
      rw [World.cell?_alloc_lt _ _ _ (World.block_lt_of_cell? w _ this)]
      exact this
    · unfold maxLen; omega
    · omega
    · intro v' w1 r1 g1 hat _ _
      have hb : ∀ g, v'.ownBlock = some g → w.heap.size ≤ g := fun g hg => by
        rcases hat with h | h
        · rw [h] at hg; simp [Value.ownBlock] at hg; omega
        · rw [h] at hg; simp at hg; omega
      have hc : Chg (fun _ => False) w w1 := (((Chg.refl (fun k => w.heap.size ≤ k) w).alloc _).grown g1 (fun k hk => by simp [Value.ownBlock] at hk; subst hk; exact .inr (Nat.le_refl _))).mono (fun x hx => .inr hx)
      have HR := Lib.hid r1; have HB := Lib.hid hb; have HC := Lib.hid hc
      clear r1 g1 hat hb hc
      go_wp2
      go_ret
      exact ⟨_, rfl, HR.out, fun g hg => ⟨HB.out g hg, ownsRow_lt HR.out hg⟩, HC.out⟩

theorem dclone_nil (w : World) : Calls Try.prog 24 #[.pointer none] w fun e w' => e = .returned (.pointer none) ∧ w = w' := by
  go_enter Try.func24, Try.ntmps24
  go_wp2
  go_ret
  exact ⟨rfl, rfl⟩
set_option maxRecDepth 100000 in
set_option maxHeartbeats 1000000 in
theorem dclone_any (r : Nat) (F : Nat → Prop) (D : Dsk) (w : World) (h : DiskAt w r F D) (hlen : D.wait.length < 3000000000000) :
    Calls Try.prog 24 #[.pointer (some ⟨r, 0, none⟩)] w fun e w' => ∃ r', e = .returned (.pointer (some ⟨r', 0, none⟩)) ∧ DiskAt w' r' (Ext (fun _ => False) w w') D ∧ Chg (fun _ => False) w w' := by
  obtain ⟨nb, kb, wv, esn, esk, cn, ck, h⟩ := h
  obtain ⟨c0, c1, c2, c3, c4, c5, c6⟩ := h.cells
  obtain ⟨ao, c, rfl, hao⟩ := ownsRow_form h.row
  have HH := Lib.hid h
  clear h hao
  go_enter Try.func24, Try.ntmps24
  go_wp2
  obtain ⟨W0, hW0⟩ : ∃ W0, W0 = w.alloc (.cells #[.int .i64 D.size, .map (some nb), .map (some kb), .slice ao D.wait.length c, .bool D.down, .int .i64 D.left] 91) := ⟨_, rfl⟩
  rw [← hW0]
  have q0 : DiskIn W0 r F D nb kb (.slice ao D.wait.length c) esn esk cn ck := by subst hW0; exact HH.out.alloc _
  have p0 : Chg (fun _ => False) w W0 := by subst hW0; exact (Chg.refl _ w).alloc _
  have b0 : W0.heap[w.heap.size]? = some (.cells #[.int .i64 D.size, .map (some nb), .map (some kb), .slice ao D.wait.length c, .bool D.down, .int .i64 D.left] 91 (0, 0)) := by subst hW0; exact hal_new
  have z0 : W0.heap.size = w.heap.size + 1 := by subst hW0; simp
  clear hW0 c0 c1 c2 c3 c4 c5
  obtain ⟨c0, c1, c2, c3, c4, c5, c6'⟩ := q0.cells
  have Q0 := Lib.hid q0; have P0 := Lib.hid p0; have B0 := Lib.hid b0; have Z0 := Lib.hid z0
  clear q0 p0 b0 z0 c0 c4 c5
  refine wp_region_lex (fun w' => w'.cell? ⟨r, 1, none⟩ = some (.map (some nb)) ∧ w'.cell? ⟨r, 2, none⟩ = some (.map (some kb)) ∧ w'.cell? ⟨r, 3, none⟩ = some (.slice ao D.wait.length c)) 20 [4, 9, 14, 16, 18, 20] [0, 1, 2, 3, 5, 6, 7, 8, 10, 11, 12, 13, 4, 9, 14, 15, 16, 17, 18, 19, 20] (by kernel_rfl) (by kernel_rfl) ⟨c1, c2, c3⟩ ?_
  iterate 12
    refine' lex_free (v := _) rfl rfl rfl ?_ (fun _ _ _ h => h) ?_
    rotate_left
    · rintro W ⟨hW1, hW2, hW3⟩
      go_simp
      with_reducible rfl
    simp only [Act.put, List.setIfInBounds_toArray, List.set_cons_zero, List.set_cons_succ]
  clear c1 c2 c3
  refine lex_op rfl rfl rfl (fun K hK => ?_)
  go_simp
  refine (mclone_new nb esn cn _ (by exact Q0.out.now)).mono ?_
  rintro e w1 ⟨n1, rfl, s1, l1, u1, x1⟩
  have q1 := Q0.out.drew.chg x1 (fun _ _ h => h)
  refine hK _ _ (fun _ => ⟨q1.cells.2.1, q1.cells.2.2.1, q1.cells.2.2.2.1⟩) ?_
  clear hK K
  have B1 := Lib.hid (x1.heap (by exact B0.out) (fun h => h)); have Q1 := Lib.hid q1; have P1 := Lib.hid (P0.out.drew.trans x1 (fun _ h => h.elim)); have S1 := Lib.hid s1; have L1 := Lib.hid l1; have U1 := Lib.hid u1
  clear q1 s1 x1 l1 u1
  try simp only [Act.put, List.setIfInBounds_toArray, List.set_cons_zero, List.set_cons_succ]
  refine lex_op rfl rfl rfl (fun K hK => ?_)
  go_simp
  refine (mclone_new kb esk ck _ (by exact Q1.out.kept)).mono ?_
  rintro e w2 ⟨n2, rfl, s2, l2, u2, x2⟩
  have q2 := Q1.out.chg x2 (fun _ _ h => h)
  refine hK _ _ (fun _ => ⟨q2.cells.2.1, q2.cells.2.2.1, q2.cells.2.2.2.1⟩) ?_
  clear hK K
  have B2 := Lib.hid (x2.heap B1.out (fun h => h)); have Q2 := Lib.hid q2; have P2 := Lib.hid (P1.out.trans x2 (fun _ h => h.elim)); have S2 := Lib.hid s2; have L2 := Lib.hid l2; have U2 := Lib.hid u2; have T2 := Lib.hid (x2.heap S1.out (fun h => h))
  clear q2 s2 x2 l2 u2
  try simp only [Act.put, List.setIfInBounds_toArray, List.set_cons_zero, List.set_cons_succ]
  refine lex_op rfl rfl rfl (fun K hK => ?_)
  go_simp
  refine (sclone_any _ D.wait.length (D.wait.flatMap wrC) _ Q2.out.row (flatMap_one D.wait) hlen).mono ?_
  rintro e w3 ⟨v3, rfl, r3, o3, x3⟩
  have q3 := Q2.out.chg x3 (fun _ _ h => h)
  refine hK _ _ (fun _ => ⟨q3.cells.2.1, q3.cells.2.2.1, q3.cells.2.2.2.1⟩) ?_
  clear hK K
  try simp only [Act.put, List.setIfInBounds_toArray, List.set_cons_zero, List.set_cons_succ]
  obtain ⟨a3, k3, rfl, _⟩ := ownsRow_form r3
  have b3 := x3.heap B2.out (fun h => h)
  have n3 := x3.heap T2.out (fun h => h)
  have m3 := x3.heap S2.out (fun h => h)
  have p3 := P2.out.trans x3 (fun _ h => h.elim)
  have e1 := cell_of_row w3 w.heap.size 1 _ _ _ b3
  have e2 := cell_of_row w3 w.heap.size 2 _ _ _ b3
  have e3 := cell_of_row w3 w.heap.size 3 _ _ _ b3
  have ef := fun o => frozen_of_row w3 w.heap.size o _ _ b3
  have hrn : r ≠ w.heap.size := by omega
  have f1 := q3.cells.2.1
  have f2 := q3.cells.2.2.1
  have f3 := q3.cells.2.2.2.1
  have HB3 := Lib.hid b3; have N3 := Lib.hid n3; have M3 := Lib.hid m3; have P3 := Lib.hid p3; have R3 := Lib.hid r3; have O3 := Lib.hid o3
  clear b3 n3 m3 p3 q3 x3 r3 o3
  refine' lex_free (v := _) rfl rfl rfl ?_ (fun _ _ _ h => h) ?_
  rotate_left
  · rintro W ⟨hW1, hW2, hW3⟩
    go_simp
    with_reducible rfl
  try simp only [Act.put, List.setIfInBounds_toArray, List.set_cons_zero, List.set_cons_succ]
  refine lex_op rfl rfl rfl (fun K hK => ?_)
  go_simp
  refine hK _ _ (fun _ => ⟨(cell_set_ne hrn).trans f1, (cell_set_ne hrn).trans f2, (cell_set_ne hrn).trans f3⟩) ?_
  clear hK K
  refine' lex_free (v := _) rfl rfl rfl ?_ (fun _ _ _ h => h) ?_
  rotate_left
  · rintro W ⟨hW1, hW2, hW3⟩
    go_simp
    with_reducible rfl
  try simp only [Act.put, List.setIfInBounds_toArray, List.set_cons_zero, List.set_cons_succ]
  refine lex_op rfl rfl rfl (fun K hK => ?_)
  go_simp
  refine hK _ _ (fun _ => ⟨(cell_set_ne hrn).trans ((cell_set_ne hrn).trans f1), (cell_set_ne hrn).trans ((cell_set_ne hrn).trans f2), (cell_set_ne hrn).trans ((cell_set_ne hrn).trans f3)⟩) ?_
  clear hK K
  refine' lex_free (v := _) rfl rfl rfl ?_ (fun _ _ _ h => h) ?_
  rotate_left
  · rintro W ⟨hW1, hW2, hW3⟩
    go_simp
    with_reducible rfl
  try simp only [Act.put, List.setIfInBounds_toArray, List.set_cons_zero, List.set_cons_succ]
  refine lex_op rfl rfl rfl (fun K hK => ?_)
  go_simp
  refine hK _ _ (fun h => absurd rfl h) ?_
  clear hK K
  refine lex_nil ?_
  go_wp2
  go_ret
  have hx := HH.out
  have l1 := L1.out; have l2 := L2.out; have z0 := Z0.out
  have u1 := U1.out
  have u2 := U2.out
  have hz3 := lt_of_heap M3.out
  have hz4 := lt_of_heap N3.out
  have hl1 : w.heap.size + 1 ≤ n1 := by have : W0.drew.heap.size = W0.heap.size := rfl; omega
  have cF : Chg (fun _ => False) w (((w3.setCell ⟨w.heap.size, 1, none⟩ (.map (some n1))).setCell ⟨w.heap.size, 2, none⟩ (.map (some n2))).setCell ⟨w.heap.size, 3, none⟩ (.slice a3 D.wait.length k3)) :=
    ((P3.out.setCell (p := ⟨w.heap.size, 1, none⟩) (.inr (Nat.le_refl _)) _).setCell (p := ⟨w.heap.size, 2, none⟩) (.inr (Nat.le_refl _)) _).setCell (p := ⟨w.heap.size, 3, none⟩) (.inr (Nat.le_refl _)) _
  have hbs := lt_of_heap HB3.out
  refine ⟨w.heap.size, rfl, ?_, cF⟩
  have hrow3 : ∀ g, (Value.slice a3 D.wait.length k3).ownBlock = some g → g ≠ w.heap.size := fun g hg e => by
    obtain ⟨cur, hc⟩ := ownsRow_heap R3.out hg
    subst e
    rw [HB3.out] at hc
    simp at hc
  refine ⟨n1, n2, .slice a3 D.wait.length k3, esn, esk, cn, ck, ?_, ?_, hx.nowIs, ?_, hx.keptIs, by omega, ?_, .inr ⟨by omega, by simpa using hbs⟩, .inr ⟨by omega, by simpa using hz4⟩, .inr ⟨by omega, by simpa using hz3⟩, fun g hg => .inr ?_, hx.ok⟩
  · rw [hset_eq (hset_eq (hset_eq HB3.out))]; rfl
  · rw [hset_ne (by omega), hset_ne (by omega), hset_ne (by omega)]; exact N3.out
  · rw [hset_ne (by omega), hset_ne (by omega), hset_ne (by omega)]; exact M3.out
  · exact ownsRow_set (ownsRow_set (ownsRow_set R3.out hrow3) hrow3) hrow3
  · have := O3.out g hg
    have h2 := P2.out.size
    simp
    omega
end Go.Proofs.Ytihpobpkhhkejaa
