/-
  What the document's disk's Clone makes. Condition: fewer than 3000000000000 writes wait.
-/
import Derived.Test.YtihpobpkhhkejaaRefK
set_option autoImplicit false
namespace Go.Proofs.Ytihpobpkhhkejaa
open Go Go.RowKit

theorem rclone_nil (w : World) : Calls Try.prog 26 #[.pointer none] w fun e w' => e = .returned (.pointer none) ∧ w = w' := by
  go_enter Try.func26, Try.ntmps26
  go_wp2
  go_ret
  exact ⟨rfl, rfl⟩
set_option maxRecDepth 100000 in
set_option maxHeartbeats 1000000 in
theorem rclone_any (r : Nat) (F : Nat → Prop) (D : Dsk) (w : World) (h : RefAt w r F D) (hlen : D.wait.length < 3000000000000) :
    Calls Try.prog 26 #[.pointer (some ⟨r, 0, none⟩)] w fun e w' => ∃ r', e = .returned (.pointer (some ⟨r', 0, none⟩)) ∧ RefAt w' r' (Ext (fun _ => False) w w') D ∧ Chg (fun _ => False) w w' := by
  obtain ⟨kv, wv, h⟩ := h
  obtain ⟨c0, c1, c2, c3, c4, c5⟩ := h.cells
  obtain ⟨ka0, kc0, rfl, hka⟩ := ownsRow_form h.kept
  obtain ⟨wa, wc, rfl, hwa⟩ := ownsRow_form h.row
  have hz1 := h.ok.1
  have hz2 := h.ok.2.1
  obtain ⟨i0, z0, hi0, hzz0, hs0, hb0, hzs0⟩ := sec_info
  obtain ⟨i1, z1, hi1, hzz1, hs1, hb1, hzs1⟩ := rwr_info
  have HH := Lib.hid h; have HKL := Lib.hid h.kept.1; have HWL := Lib.hid h.row.1
  clear h hka hwa
  go_enter Try.func26, Try.ntmps26
  go_wp2_with fail
  refine wp_region_lex (fun w' => w'.cell? ⟨r, 0, none⟩ = some (.int .i64 D.size) ∧ w'.cell? ⟨r, 3, none⟩ = some (.bool D.down) ∧ w'.cell? ⟨r, 4, none⟩ = some (.int .i64 D.left)) 99 [13] [0, 1, 2, 3, 4, 5, 6, 7, 8, 9, 10, 11, 12, 13, 14] (by kernel_rfl) (by kernel_rfl) ⟨c0, c3, c4⟩ ?_
  iterate 13
    refine' lex_free (v := _) rfl rfl rfl ?_ (fun _ _ _ h => h) ?_
    rotate_left
    · rintro W ⟨hW1, hW2, hW3⟩
      go_simp
      with_reducible rfl
    try simp only [Act.put, List.setIfInBounds_toArray, List.set_cons_zero, List.set_cons_succ]
  refine lex_op rfl rfl rfl (fun K hK => ?_)
  go_simp
  refine hK _ _ (fun _ => ⟨(World.cell?_alloc_lt _ _ _ c5).trans c0, (World.cell?_alloc_lt _ _ _ c5).trans c3, (World.cell?_alloc_lt _ _ _ c5).trans c4⟩) ?_
  clear hK K
  try simp only [Act.put, List.setIfInBounds_toArray, List.set_cons_zero, List.set_cons_succ]
  iterate 1
    refine' lex_free (v := _) rfl rfl rfl ?_ (fun _ _ _ h => h) ?_
    rotate_left
    · rintro W ⟨hW1, hW2, hW3⟩
      go_simp
      with_reducible rfl
    try simp only [Act.put, List.setIfInBounds_toArray, List.set_cons_zero, List.set_cons_succ]
  refine lex_nil ?_
  have hW0 : (w.alloc (.cells #[.int .i64 D.size, .slice none 0 0, .slice none 0 0, .bool D.down, .int .i64 D.left] 62)).drew.heap[w.heap.size]? = some (.cells #[.int .i64 D.size, .slice none 0 0, .slice none 0 0, .bool D.down, .int .i64 D.left] 62 (0, 0)) := hal_new
  have x0 : Chg (fun _ => False) w (w.alloc (.cells #[.int .i64 D.size, .slice none 0 0, .slice none 0 0, .bool D.down, .int .i64 D.left] 62)).drew := ((Chg.refl _ w).alloc _).drew
  have zz : (w.alloc (.cells #[.int .i64 D.size, .slice none 0 0, .slice none 0 0, .bool D.down, .int .i64 D.left] 62)).drew.heap.size = w.heap.size + 1 := by simp
  generalize (w.alloc (.cells #[.int .i64 D.size, .slice none 0 0, .slice none 0 0, .bool D.down, .int .i64 D.left] 62)).drew = W0 at *
  go_wp2_with fail
  have h0 := HH.out.chg x0 (fun _ _ h => h)
  have y0 : Chg (fun _ => False) W0 W0.drew := (Chg.refl _ W0).drew
  have a1 := h0.cells.2.1
  have b1 := cell_of_row W0 w.heap.size 1 _ _ _ hW0
  have H0 := Lib.hid h0; have HW0 := Lib.hid hW0; have X0 := Lib.hid x0
  clear h0 hW0 x0 c0 c1 c2 c3 c4
  refine wp_region_lex (fun w' => w'.cell? ⟨w.heap.size, 1, none⟩ = some (.slice none 0 0) ∧ w'.cell? ⟨r, 1, none⟩ = some (.slice ka0 D.size.toNat kc0)) 12 [9, 12] [0, 1, 2, 3, 4, 5, 6, 7, 8, 9, 10, 11, 12] (by kernel_rfl) (by kernel_rfl) ⟨b1, a1⟩ ?_
  clear a1 b1
  iterate 9
    refine' lex_free (v := _) rfl rfl rfl ?_ (fun _ _ _ h => h) ?_
    rotate_left
    · rintro W ⟨hW1, hW2⟩
      go_simp
      with_reducible rfl
    try simp only [Act.put, List.setIfInBounds_toArray, List.set_cons_zero, List.set_cons_succ]
  refine lex_op rfl rfl rfl (fun K hK => ?_)
  refine wp_app _ _ _ _ rfl 31 i0 z0 64 64 Try.underlying59 hi0 hzz0 hs0 hb0 (by rw [hzs0]; simp [sec0]) (.slice none 0 0) 0 [] rfl ⟨rfl, .inl ⟨rfl, rfl⟩⟩ ka0 D.size.toNat kc0 (keptC D) rfl HKL.out (ownsRow_none H0.out.kept) (ownsRow_news H0.out.kept) (fun u hu => by obtain ⟨_, _, hh⟩ := List.mem_flatMap.1 hu; exact secC_one _ u hh) (by unfold maxLen; omega) (by omega) ?_
  intro v1 W1 r1 g1 hat1 _ hlt1
  have x1 : Chg (fun _ => False) W0 W1 := y0.grown g1 (fun k hk => by cases hk)
  have h1 := H0.out.chg x1 (fun _ _ h => h)
  have n1 := x1.heap HW0.out (fun h => h)
  have a1 := h1.cells.2.1
  have b1 := cell_of_row W1 w.heap.size 1 _ _ _ n1
  have f1 := frozen_of_row W1 w.heap.size 1 _ _ n1
  refine hK _ _ (fun _ => ⟨b1, a1⟩) ?_
  clear hK K
  try simp only [Act.put, List.setIfInBounds_toArray, List.set_cons_zero, List.set_cons_succ]
  rw [Nat.zero_add, List.nil_append] at r1
  obtain ⟨va, vc, rfl, _⟩ := ownsRow_form r1
  have hb1 : ∀ g, (Value.slice va D.size.toNat vc).ownBlock = some g → W0.heap.size ≤ g := fun g hg => by
    rcases hat1 with h | h
    · rw [h] at hg; cases hg
    · rw [h] at hg; have := Option.some.inj hg; exact Nat.le_of_eq this
  have R1 := Lib.hid r1; have HB1 := Lib.hid hb1; have X1 := Lib.hid x1; have N1 := Lib.hid n1; have H1 := Lib.hid h1
  clear r1 g1 hat1 hlt1 x1 n1 h1 hb1 y0
  iterate 2
    refine' lex_free (v := _) rfl rfl rfl ?_ (fun _ _ _ h => h) ?_
    rotate_left
    · rintro W ⟨hW1, hW2⟩
      go_simp
      with_reducible rfl
    try simp only [Act.put, List.setIfInBounds_toArray, List.set_cons_zero, List.set_cons_succ]
  refine lex_op rfl rfl rfl (fun K hK => ?_)
  go_simp
  refine hK _ _ (fun h => absurd rfl h) ?_
  clear hK K a1 b1 f1
  refine lex_nil ?_
  have hne : w.heap.size ≠ r := by omega
  have n2 := hset_eq (i := 1) (v := .slice va D.size.toNat vc) N1.out
  have zs1 := X1.out.size
  have zs0 := X0.out.size
  have x2 : Chg (fun _ => False) w (W1.setCell ⟨w.heap.size, 1, none⟩ (.slice va D.size.toNat vc)) := (X0.out.trans X1.out (fun _ h => h.elim)).setCell (.inr (Nat.le_refl _)) _
  have r2 : (W1.setCell ⟨w.heap.size, 1, none⟩ (.slice va D.size.toNat vc)).ownsRow 0 31 64 (.slice va D.size.toNat vc) D.size.toNat (keptC D) := ownsRow_set R1.out (fun g hg => by have := HB1.out g hg; omega)
  have zz2 : (W1.setCell ⟨w.heap.size, 1, none⟩ (.slice va D.size.toNat vc)).heap.size = W1.heap.size := by simp
  generalize (W1.setCell ⟨w.heap.size, 1, none⟩ (.slice va D.size.toNat vc)) = W2 at *
  have h2 := HH.out.chg x2 (fun _ _ h => h)
  have a2 := h2.cells.2.2.1
  have b2 := cell_of_row W2 w.heap.size 2 _ _ _ n2
  have y2 : Chg (fun _ => False) W2 W2.drew := (Chg.refl _ W2).drew
  have H2 := Lib.hid h2; have N2 := Lib.hid n2; have X2 := Lib.hid x2; have R2 := Lib.hid r2
  clear h2 n2 x2 r2
  go_wp2_with fail
  refine wp_region_lex (fun w' => w'.cell? ⟨w.heap.size, 2, none⟩ = some (.slice none 0 0) ∧ w'.cell? ⟨r, 2, none⟩ = some (.slice wa D.wait.length wc)) 12 [9, 12] [0, 1, 2, 3, 4, 5, 6, 7, 8, 9, 10, 11, 12] (by kernel_rfl) (by kernel_rfl) ⟨b2, a2⟩ ?_
  clear a2 b2
  iterate 9
    refine' lex_free (v := _) rfl rfl rfl ?_ (fun _ _ _ h => h) ?_
    rotate_left
    · rintro W ⟨hW1, hW2⟩
      go_simp
      with_reducible rfl
    try simp only [Act.put, List.setIfInBounds_toArray, List.set_cons_zero, List.set_cons_succ]
  refine lex_op rfl rfl rfl (fun K hK => ?_)
  refine wp_app _ _ _ _ rfl 99 i1 z1 65 72 Try.underlying60 hi1 hzz1 hs1 hb1 hzs1 (.slice none 0 0) 0 [] rfl ⟨rfl, .inl ⟨rfl, rfl⟩⟩ wa D.wait.length wc (D.wait.flatMap wrC) rfl HWL.out (ownsRow_none H2.out.row) (ownsRow_news H2.out.row) (fun u hu => by obtain ⟨_, _, hh⟩ := List.mem_flatMap.1 hu; exact wrC_one _ u hh) (by unfold maxLen; omega) (by omega) ?_
  intro v3 W3 r3 g3 hat3 _ hlt3
  have x3 : Chg (fun _ => False) W2 W3 := y2.grown g3 (fun k hk => by cases hk)
  have h3 := H2.out.chg x3 (fun _ _ h => h)
  have n3 := x3.heap N2.out (fun h => h)
  have a3 := h3.cells.2.2.1
  have b3 := cell_of_row W3 w.heap.size 2 _ _ _ n3
  have f3 := frozen_of_row W3 w.heap.size 2 _ _ n3
  refine hK _ _ (fun _ => ⟨b3, a3⟩) ?_
  clear hK K
  try simp only [Act.put, List.setIfInBounds_toArray, List.set_cons_zero, List.set_cons_succ]
  rw [Nat.zero_add, List.nil_append] at r3
  obtain ⟨ua, uc, rfl, _⟩ := ownsRow_form r3
  have hb3 : ∀ g, (Value.slice ua D.wait.length uc).ownBlock = some g → W2.heap.size ≤ g := fun g hg => by
    rcases hat3 with h | h
    · rw [h] at hg; cases hg
    · rw [h] at hg; have := Option.some.inj hg; exact Nat.le_of_eq this
  have hk3 : W3.ownsRow 0 31 64 (.slice va D.size.toNat vc) D.size.toNat (keptC D) := ownsRow_chg R2.out x3 (fun _ _ h => h)
  have R3 := Lib.hid r3; have HB3 := Lib.hid hb3; have X3 := Lib.hid x3; have N3 := Lib.hid n3; have K3 := Lib.hid hk3
  clear r3 g3 hat3 hlt3 x3 n3 h3 hb3 y2 hk3
  iterate 2
    refine' lex_free (v := _) rfl rfl rfl ?_ (fun _ _ _ h => h) ?_
    rotate_left
    · rintro W ⟨hW1, hW2⟩
      go_simp
      with_reducible rfl
    try simp only [Act.put, List.setIfInBounds_toArray, List.set_cons_zero, List.set_cons_succ]
  refine lex_op rfl rfl rfl (fun K hK => ?_)
  go_simp
  refine hK _ _ (fun h => absurd rfl h) ?_
  clear hK K a3 b3 f3
  refine lex_nil ?_
  go_wp2
  go_ret
  have hx := HH.out
  have zs3 := X3.out.size
  have zs2 := X2.out.size
  have hwn : ∀ g, (Value.slice va D.size.toNat vc).ownBlock = some g → g ≠ w.heap.size := fun g hg e => by have := HB1.out g hg; omega
  have hun : ∀ g, (Value.slice ua D.wait.length uc).ownBlock = some g → g ≠ w.heap.size := fun g hg e => by have := HB3.out g hg; omega
  refine ⟨w.heap.size, rfl, ⟨.slice va D.size.toNat vc, .slice ua D.wait.length uc, ?_, ?_, ?_, ?_, fun g hg => ?_, fun g hg => ?_, hx.ok, hx.inv⟩, (X2.out.trans X3.out (fun _ h => h.elim)).setCell (.inr (Nat.le_refl _)) _⟩
  · rw [hset_eq N3.out]; rfl
  · exact ownsRow_set K3.out hwn
  · exact ownsRow_set R3.out hun
  · exact .inr ⟨Nat.le_refl _, by have := lt_of_heap N3.out; simpa using this⟩
  · exact .inr ⟨by have := HB1.out g hg; omega, by have := ownsRow_lt K3.out hg; simpa using this⟩
  · exact .inr ⟨by have := HB3.out g hg; omega, by have := ownsRow_lt R3.out hg; simpa using this⟩
end Go.Proofs.Ytihpobpkhhkejaa
