/-
  The walk of right: one call on both disks: the answers are the document's. Conditions: as each lemma says.
-/
import Derived.Test.YtihpobpkhhkejaaRefC
import Derived.Test.YtihpobpkhhkejaaSecEq
set_option autoImplicit false
namespace Go.Proofs.Ytihpobpkhhkejaa
open Go Go.RowKit

/-! a disk that is none -/
theorem write_nil (n : Int) (cs : Array Value) (w : World) : Calls Try.prog 16 #[.pointer none, .int .i64 n, .agg cs] w fun e w' => e = .returned (.int .i64 2) ∧ Chg (fun _ => False) w w' := by
  go_enter Try.func16, Try.ntmps16
  go_wp2_with fail
  refine (may_nil n _).mono ?_
  rintro e w' ⟨rfl, rfl⟩
  go_wp2
  go_ret
  exact ⟨rfl, (Chg.refl _ _).alloc _⟩
theorem sync_nil (w : World) : Calls Try.prog 17 #[.pointer none] w fun e w' => e = .returned (.int .i64 2) ∧ w = w' := by
  go_enter Try.func17, Try.ntmps17
  go_wp2_with fail
  refine (may_nil 0 _).mono ?_
  rintro e w' ⟨rfl, rfl⟩
  go_wp2
  go_ret
  exact ⟨rfl, rfl⟩
attribute [local go_sem ↓] exec_build_sec0
set_option maxRecDepth 100000 in
theorem read_nil (n : Int) (w : World) : Calls Try.prog 20 #[.pointer none, .int .i64 n] w fun e w' => e = .returned (.tuple #[.agg (secC sec0).toArray, .int .i64 2]) ∧ Chg (fun _ => False) w w' := by
  have H0 := Lib.hid info_sec0; have H1 := Lib.hid (info_secC sec0_len); have H2 := Lib.hid ((secC_len sec0).trans sec0_len)
  go_enter Try.func20, Try.ntmps20
  go_wp2_with (refine wpList_alloc_big rfl 31 64 rfl H0.out (fun zs hzs => ?_); have HZS := Lib.hid hzs; clear hzs)
  refine (may_nil n _).mono ?_
  rintro e w' ⟨rfl, rfl⟩
  go_wp2_with (refine wpList_store_new rfl 31 _ _ rfl (secC sec0) _ rfl rfl rfl (H2.out.trans HZS.out.symm) H1.out (secC_one _) ?_)
  refine bodyPost_ret (results_big2 rfl _ _ w.heap.size (secC sec0) _ rfl (range_block hal_new) Try.underlying31 rfl H1.out) rfl ?_
  exact ⟨rfl, (Chg.refl _ _).alloc _⟩

/-! two disks that stand for one another -/
structure Duo (w : World) (d r : Nat) (A B : Nat → Prop) (D : Dsk) : Prop where
  disk : DiskAt w d A D
  ref : RefAt w r B D
  apart : ∀ k, A k → ¬ B k
  la : ∀ k, A k → k < w.heap.size
  lb : ∀ k, B k → k < w.heap.size
/-- what is had behind a call -/
structure Duo2 (w : World) (d r : Nat) (A B : Nat → Prop) (D : Dsk) (w' : World) (A' B' : Nat → Prop) : Prop where
  duo : Duo w' d r A' B' D
  fa : ∀ k, A' k → A k ∨ w.heap.size ≤ k
  fb : ∀ k, B' k → B k ∨ w.heap.size ≤ k
  chg : Chg (fun k => A k ∨ B k) w w'
theorem Duo.chg {w w' : World} {d r : Nat} {A B G : Nat → Prop} {D : Dsk} (h : Duo w d r A B D) (c : Chg G w w') (hG : ∀ k, G k → ¬ A k ∧ ¬ B k) : Duo w' d r A B D :=
  ⟨h.disk.chg c (fun k hk hg => (hG k hg).1 hk), h.ref.chg c (fun k hk hg => (hG k hg).2 hk), h.apart, fun k hk => Nat.lt_of_lt_of_le (h.la k hk) c.size, fun k hk => Nat.lt_of_lt_of_le (h.lb k hk) c.size⟩
theorem Duo.quiet {w w' : World} {d r : Nat} {A B : Nat → Prop} {D : Dsk} (h : Duo w d r A B D) (c : Chg (fun _ => False) w w') : Duo2 w d r A B D w' A B :=
  ⟨h.chg c (fun _ h => h.elim), fun _ h => .inl h, fun _ h => .inl h, c.mono (fun _ h => h.elim)⟩
theorem Duo2.then {w w1 w2 : World} {d r : Nat} {A B A1 B1 A2 B2 : Nat → Prop} {D E : Dsk} (h : Duo2 w d r A B D w1 A1 B1) (h2 : Duo2 w1 d r A1 B1 E w2 A2 B2) : Duo2 w d r A B E w2 A2 B2 :=
  ⟨h2.duo, fun k hk => by
    rcases h2.fa k hk with h3 | h3
    · exact h.fa k h3
    · exact .inr (Nat.le_trans h.chg.size h3), fun k hk => by
    rcases h2.fb k hk with h3 | h3
    · exact h.fb k h3
    · exact .inr (Nat.le_trans h.chg.size h3), h.chg.trans h2.chg (fun k hk => by
    rcases hk with h3 | h3
    · rcases h.fa k h3 with h4 | h4
      · exact .inl (.inl h4)
      · exact .inr h4
    · rcases h.fb k h3 with h4 | h4
      · exact .inl (.inr h4)
      · exact .inr h4)⟩
/-- first the disk's own call, then the document's -/
theorem Duo.both {w w1 w2 : World} {d r : Nat} {A B : Nat → Prop} {D E : Dsk} (h : Duo w d r A B D) (h1 : DiskAt w1 d (Ext A w w1) E) (c1 : Chg A w w1) (c : Chg (fun _ => False) w1 w2) (w3 : World)
    (h2 : RefAt w3 r (Ext B w2 w3) E) (c2 : Chg B w2 w3) : ∃ A' B', Duo2 w d r A B E w3 A' B' := by
  have z1 := c1.size
  have z := c.size
  have z2 := c2.size
  have x : Chg B w1 w3 := (c.mono (fun _ h => h.elim)).trans c2 (fun _ h => .inl h)
  refine ⟨Ext A w w1, Ext B w2 w3, ⟨h1.chg x (fun k hk hb => ?_), h2, fun k hk hb => ?_, fun k hk => ?_, fun k hk => ?_⟩, fun k hk => ?_, fun k hk => ?_, (c1.mono (fun _ h => .inl (.inl h))).trans x (fun k hk => .inl (.inr hk))⟩
  · rcases hk with hk | hk
    · exact h.apart k hk hb
    · have := h.lb k hb; omega
  · rcases hk with hk | hk <;> rcases hb with hb | hb
    · exact h.apart k hk hb
    · have := h.la k hk; omega
    · have := h.lb k hb; omega
    · omega
  · rcases hk with hk | hk
    · have := h.la k hk; omega
    · omega
  · rcases hk with hk | hk
    · have := h.lb k hk; omega
    · omega
  · rcases hk with hk | hk
    · exact .inl hk
    · exact .inr hk.1
  · rcases hk with hk | hk
    · exact .inl hk
    · exact .inr (by omega)
def stepD (K N S : Int) (ks : List Bool) (D : Dsk) : Dsk :=
  if K = 1 then D.writeR N (secBB S 9) else if K = 3 then (if D.down then D else D.sync) else if K = 4 then D.arm N else if K = 5 then D.restart ks else D
/-! the walks -/
attribute [local go_sem ↓] exec_build_sec2
set_option maxRecDepth 100000 in
set_option maxHeartbeats 1000000 in
theorem right_write (w : World) (d r : Nat) (A B : Nat → Prop) (D : Dsk) (On N S : Int) (kv : Value) (h : Duo w d r A B D) (hlen : D.wait.length < 3000000000000) :
    Calls Try.prog 27 #[.pointer (some ⟨d, 0, none⟩), .pointer (some ⟨r, 0, none⟩), .agg #[.int .i64 1, .int .i64 On, .int .i64 N, .int .u8 S, kv]] w fun e w' => e = .returned (.bool true) ∧ ∃ A' B', Duo2 w d r A B (D.writeR N (secBB S 9)) w' A' B' := by
  have H1 := Lib.hid (h.quiet ((Chg.refl (fun _ => False) w).alloc (.cells #[.int .i64 1, .int .i64 On, .int .i64 N, .int .u8 S, kv] 54)))
  have b1 : (w.alloc (.cells #[.int .i64 1, .int .i64 On, .int .i64 N, .int .u8 S, kv] 54)).heap[w.heap.size]? = some (.cells #[.int .i64 1, .int .i64 On, .int .i64 N, .int .u8 S, kv] 54 (0, 0)) := hal_new
  have BB := Lib.hid b1
  have k0 := h.la
  have k1 := h.lb
  have K0 := Lib.hid k0; have K1 := Lib.hid k1; have HH := Lib.hid h
  clear b1 k0 k1 h
  generalize hE : D.writeR N (secBB S 9) = E at *
  have HE := Lib.hid hE
  clear hE
  go_enter Try.func27, Try.ntmps27
  go_wp2_with fail
  generalize (w.alloc (.cells #[.int .i64 1, .int .i64 On, .int .i64 N, .int .u8 S, kv] 54)) = W1 at *
  have c2 := cell_of_row W1 w.heap.size 2 _ _ _ BB.out
  have c3 := cell_of_row W1 w.heap.size 3 _ _ _ BB.out
  refine wp_region_lex (fun w' => w'.cell? ⟨w.heap.size, 2, none⟩ = some (.int .i64 N) ∧ w'.cell? ⟨w.heap.size, 3, none⟩ = some (.int .u8 S)) 99 [6, 13] [0, 1, 2, 3, 4, 5, 7, 8, 9, 10, 11, 12, 6, 13, 14] (by kernel_rfl) (by kernel_rfl) ⟨c2, c3⟩ ?_
  clear c2 c3
  iterate 12
    refine' lex_free (v := _) rfl rfl rfl ?_ (fun _ _ _ h => h) ?_
    rotate_left
    · rintro W ⟨hW1, hW2⟩
      go_simp
      with_reducible rfl
    try simp only [Act.put, List.setIfInBounds_toArray, List.set_cons_zero, List.set_cons_succ]
  have HD := Lib.hid (H1.out.then (H1.out.duo.quiet (Chg.refl (fun _ => False) W1).drew))
  refine lex_op rfl rfl rfl (fun K hK => ?_)
  go_simp
  refine (write_any d A D N (secBB S 9) _ HD.out.duo.disk (secBB_len S 9) hlen).mono ?_
  rintro e w1 ⟨rfl, d1, x1⟩
  rw [HE.out] at d1
  have e1 := x1.heap (show W1.drew.heap[w.heap.size]? = _ from BB.out) (fun h => by have := K0.out _ h; omega)
  refine hK _ _ (fun _ => ⟨cell_of_row w1 w.heap.size 2 _ _ _ e1, cell_of_row w1 w.heap.size 3 _ _ _ e1⟩) ?_
  clear hK K
  have X1 := Lib.hid x1; have E1 := Lib.hid e1; have D1 := Lib.hid d1
  clear d1 x1 e1
  try simp only [Act.put, List.setIfInBounds_toArray, List.set_cons_zero, List.set_cons_succ]
  refine lex_op rfl rfl rfl (fun K hK => ?_)
  go_simp
  refine (rwrite_any r B D N (secBB S 9) _ (HD.out.duo.ref.chg X1.out (fun k hk ha => HD.out.duo.apart k ha hk)) (secBB_len S 9) hlen).mono ?_
  rintro e w2 ⟨rfl, d2, x2⟩
  rw [HE.out] at d2
  have e2 := x2.heap E1.out (fun h => by have := K1.out _ h; omega)
  refine hK _ _ (fun _ => ⟨cell_of_row w2 w.heap.size 2 _ _ _ e2, cell_of_row w2 w.heap.size 3 _ _ _ e2⟩) ?_
  clear hK K
  obtain ⟨A', B', du⟩ := HD.out.duo.both D1.out X1.out (Chg.refl _ w1) w2 d2 x2
  have DU := Lib.hid (HD.out.then du)
  clear d2 x2 e2 du
  try simp only [Act.put, List.setIfInBounds_toArray, List.set_cons_zero, List.set_cons_succ]
  iterate 1
    refine' lex_free (v := _) rfl rfl rfl ?_ (fun _ _ _ h => h) ?_
    rotate_left
    · rintro W ⟨hW1, hW2⟩
      go_simp
      with_reducible rfl
    try simp only [Act.put, List.setIfInBounds_toArray, List.set_cons_zero, List.set_cons_succ]
  refine lex_nil ?_
  obtain ⟨kv', wv', hr⟩ := DU.out.duo.ref
  obtain ⟨wa, wc, rfl, _⟩ := ownsRow_form hr.row
  have q0 := hr.cells.1
  have q2 := hr.cells.2.2.1
  have q3 := hr.cells.2.2.2.1
  clear hr
  go_wp2_with fail
  refine wp_region_lex (fun w' => w'.cell? ⟨r, 0, none⟩ = some (.int .i64 E.size) ∧ w'.cell? ⟨r, 2, none⟩ = some (.slice wa E.wait.length wc) ∧ w'.cell? ⟨r, 3, none⟩ = some (.bool E.down)) 99 [1, 9, 19] [0, 2, 3, 4, 5, 1, 6, 7, 8, 10, 11, 12, 13, 14, 9, 15, 16, 17, 18, 20, 21, 22, 23, 19, 24, 25, 26] (by kernel_rfl) (by kernel_rfl) ⟨q0, q2, q3⟩ ?_
  have Q0 := Lib.hid q0; have Q2 := Lib.hid q2; have Q3 := Lib.hid q3
  clear q0 q2 q3
  iterate 5
    refine' lex_free (v := _) rfl rfl rfl ?_ (fun _ _ _ h => h) ?_
    rotate_left
    · rintro W ⟨hW1, hW2, hW3⟩
      go_simp
      with_reducible rfl
    try simp only [Act.put, List.setIfInBounds_toArray, List.set_cons_zero, List.set_cons_succ]
  refine lex_op rfl rfl rfl (fun K hK => ?_)
  go_simp
  refine (down_any d _ E _ (DU.out.duo.disk.chg (Chg.refl (fun _ => False) _).drew (fun _ _ h => h))).mono ?_
  rintro e w9 ⟨rfl, rfl⟩
  refine hK _ _ (fun _ => ⟨Q0.out, Q2.out, Q3.out⟩) ?_
  clear hK K
  try simp only [Act.put, List.setIfInBounds_toArray, List.set_cons_zero, List.set_cons_succ]
  iterate 2
    refine' lex_free (v := _) rfl rfl rfl ?_ (fun _ _ _ h => h) ?_
    rotate_left
    · rintro W ⟨hW1, hW2, hW3⟩
      go_simp
      with_reducible rfl
    try simp only [Act.put, List.setIfInBounds_toArray, List.set_cons_zero, List.set_cons_succ]
  iterate 6
    refine' lex_freeG (v := _) rfl rfl rfl ?_ (fun _ _ _ h => h) ?_
    rotate_left
    · rintro W ⟨hW1, hW2, hW3⟩
      go_simp
      with_reducible rfl
    try simp only [Act.put, List.setIfInBounds_toArray, List.set_cons_zero, List.set_cons_succ]
  refine lex_opG rfl rfl rfl (fun K hK => ?_)
  go_simp
  refine (waiting_any d _ E _ (DU.out.duo.disk.chg (Chg.refl (fun _ => False) _).drew (fun _ _ h => h))).mono ?_
  rintro e w9 ⟨rfl, rfl⟩
  refine hK _ _ (fun _ => ⟨Q0.out, Q2.out, Q3.out⟩) ?_
  clear hK K
  try simp only [Act.put, List.setIfInBounds_toArray, List.set_cons_zero, List.set_cons_succ]
  iterate 1
    refine' lex_freeG (v := _) rfl rfl rfl ?_ (fun _ _ _ h => h) ?_
    rotate_left
    · rintro W ⟨hW1, hW2, hW3⟩
      go_simp
      with_reducible rfl
    try simp only [Act.put, List.setIfInBounds_toArray, List.set_cons_zero, List.set_cons_succ]
  iterate 2
    refine' lex_free (v := _) rfl rfl rfl ?_ (fun _ _ _ h => h) ?_
    rotate_left
    · rintro W ⟨hW1, hW2, hW3⟩
      go_simp
      with_reducible rfl
    try simp only [Act.put, List.setIfInBounds_toArray, List.set_cons_zero, List.set_cons_succ]
  iterate 5
    refine' lex_freeG (v := _) rfl rfl rfl ?_ (fun _ _ _ h => h) ?_
    rotate_left
    · rintro W ⟨hW1, hW2, hW3⟩
      go_simp
      with_reducible rfl
    try simp only [Act.put, List.setIfInBounds_toArray, List.set_cons_zero, List.set_cons_succ]
  refine lex_opG rfl rfl rfl (fun K hK => ?_)
  go_simp
  refine (size_any d _ E _ (DU.out.duo.disk.chg (Chg.refl (fun _ => False) _).drew (fun _ _ h => h))).mono ?_
  rintro e w9 ⟨rfl, rfl⟩
  refine hK _ _ (fun _ => ⟨Q0.out, Q2.out, Q3.out⟩) ?_
  clear hK K
  try simp only [Act.put, List.setIfInBounds_toArray, List.set_cons_zero, List.set_cons_succ]
  iterate 1
    refine' lex_freeG (v := _) rfl rfl rfl ?_ (fun _ _ _ h => h) ?_
    rotate_left
    · rintro W ⟨hW1, hW2, hW3⟩
      go_simp
      with_reducible rfl
    try simp only [Act.put, List.setIfInBounds_toArray, List.set_cons_zero, List.set_cons_succ]
  iterate 2
    refine' lex_free (v := _) rfl rfl rfl ?_ (fun _ _ _ h => h) ?_
    rotate_left
    · rintro W ⟨hW1, hW2, hW3⟩
      go_simp
      with_reducible rfl
    try simp only [Act.put, List.setIfInBounds_toArray, List.set_cons_zero, List.set_cons_succ]
  refine lex_nil ?_
  go_wp2
  go_ret
  exact ⟨rfl, _, _, (DU.out.then (DU.out.duo.quiet (Chg.refl (fun _ => False) _).drew))⟩
set_option maxRecDepth 100000 in
set_option maxHeartbeats 1000000 in
theorem right_sync (w : World) (d r : Nat) (A B : Nat → Prop) (D : Dsk) (On N S : Int) (kv : Value) (h : Duo w d r A B D) (hlen : D.wait.length < 3000000000000) :
    Calls Try.prog 27 #[.pointer (some ⟨d, 0, none⟩), .pointer (some ⟨r, 0, none⟩), .agg #[.int .i64 3, .int .i64 On, .int .i64 N, .int .u8 S, kv]] w fun e w' => e = .returned (.bool true) ∧ ∃ A' B', Duo2 w d r A B (if D.down then D else D.sync) w' A' B' := by
  have H1 := Lib.hid (h.quiet ((Chg.refl (fun _ => False) w).alloc (.cells #[.int .i64 3, .int .i64 On, .int .i64 N, .int .u8 S, kv] 54)))
  have b1 : (w.alloc (.cells #[.int .i64 3, .int .i64 On, .int .i64 N, .int .u8 S, kv] 54)).heap[w.heap.size]? = some (.cells #[.int .i64 3, .int .i64 On, .int .i64 N, .int .u8 S, kv] 54 (0, 0)) := hal_new
  have BB := Lib.hid b1
  have k0 := h.la
  have k1 := h.lb
  have K0 := Lib.hid k0; have K1 := Lib.hid k1; have HH := Lib.hid h
  clear b1 k0 k1 h
  generalize hE : (if D.down then D else D.sync) = E at *
  have HE := Lib.hid hE
  clear hE
  go_enter Try.func27, Try.ntmps27
  go_wp2_with fail
  generalize (w.alloc (.cells #[.int .i64 3, .int .i64 On, .int .i64 N, .int .u8 S, kv] 54)) = W1 at *
  refine (sync_any d A D W1 H1.out.duo.disk hlen).mono ?_
  rintro e w1 ⟨rfl, d1, x1⟩
  rw [HE.out] at d1
  have X1 := Lib.hid x1; have D1 := Lib.hid d1
  clear d1 x1
  generalize hz : (if D.down = true then (24 : Int) else 0) = z at *
  have HZ := Lib.hid hz
  clear hz
  go_wp2_with fail
  refine (rsync_any r B D w1 (H1.out.duo.ref.chg X1.out (fun k hk ha => H1.out.duo.apart k ha hk))).mono ?_
  rintro e w2 ⟨rfl, d2, x2⟩
  rw [HE.out] at d2
  rw [HZ.out]
  obtain ⟨A', B', du⟩ := H1.out.duo.both D1.out X1.out (Chg.refl _ w1) w2 d2 x2
  have DU := Lib.hid (H1.out.then du)
  clear d2 x2 du
  obtain ⟨kv', wv', hr⟩ := DU.out.duo.ref
  obtain ⟨wa, wc, rfl, _⟩ := ownsRow_form hr.row
  have q0 := hr.cells.1
  have q2 := hr.cells.2.2.1
  have q3 := hr.cells.2.2.2.1
  clear hr
  go_wp2_with fail
  refine wp_region_lex (fun w' => w'.cell? ⟨r, 0, none⟩ = some (.int .i64 E.size) ∧ w'.cell? ⟨r, 2, none⟩ = some (.slice wa E.wait.length wc) ∧ w'.cell? ⟨r, 3, none⟩ = some (.bool E.down)) 99 [1, 9, 19] [0, 2, 3, 4, 5, 1, 6, 7, 8, 10, 11, 12, 13, 14, 9, 15, 16, 17, 18, 20, 21, 22, 23, 19, 24, 25, 26] (by kernel_rfl) (by kernel_rfl) ⟨q0, q2, q3⟩ ?_
  have Q0 := Lib.hid q0; have Q2 := Lib.hid q2; have Q3 := Lib.hid q3
  clear q0 q2 q3
  iterate 5
    refine' lex_free (v := _) rfl rfl rfl ?_ (fun _ _ _ h => h) ?_
    rotate_left
    · rintro W ⟨hW1, hW2, hW3⟩
      go_simp
      with_reducible rfl
    try simp only [Act.put, List.setIfInBounds_toArray, List.set_cons_zero, List.set_cons_succ]
  refine lex_op rfl rfl rfl (fun K hK => ?_)
  go_simp
  refine (down_any d _ E _ (DU.out.duo.disk.chg (Chg.refl (fun _ => False) _).drew (fun _ _ h => h))).mono ?_
  rintro e w9 ⟨rfl, rfl⟩
  refine hK _ _ (fun _ => ⟨Q0.out, Q2.out, Q3.out⟩) ?_
  clear hK K
  try simp only [Act.put, List.setIfInBounds_toArray, List.set_cons_zero, List.set_cons_succ]
  iterate 2
    refine' lex_free (v := _) rfl rfl rfl ?_ (fun _ _ _ h => h) ?_
    rotate_left
    · rintro W ⟨hW1, hW2, hW3⟩
      go_simp
      with_reducible rfl
    try simp only [Act.put, List.setIfInBounds_toArray, List.set_cons_zero, List.set_cons_succ]
  iterate 6
    refine' lex_freeG (v := _) rfl rfl rfl ?_ (fun _ _ _ h => h) ?_
    rotate_left
    · rintro W ⟨hW1, hW2, hW3⟩
      go_simp
      with_reducible rfl
    try simp only [Act.put, List.setIfInBounds_toArray, List.set_cons_zero, List.set_cons_succ]
  refine lex_opG rfl rfl rfl (fun K hK => ?_)
  go_simp
  refine (waiting_any d _ E _ (DU.out.duo.disk.chg (Chg.refl (fun _ => False) _).drew (fun _ _ h => h))).mono ?_
  rintro e w9 ⟨rfl, rfl⟩
  refine hK _ _ (fun _ => ⟨Q0.out, Q2.out, Q3.out⟩) ?_
  clear hK K
  try simp only [Act.put, List.setIfInBounds_toArray, List.set_cons_zero, List.set_cons_succ]
  iterate 1
    refine' lex_freeG (v := _) rfl rfl rfl ?_ (fun _ _ _ h => h) ?_
    rotate_left
    · rintro W ⟨hW1, hW2, hW3⟩
      go_simp
      with_reducible rfl
    try simp only [Act.put, List.setIfInBounds_toArray, List.set_cons_zero, List.set_cons_succ]
  iterate 2
    refine' lex_free (v := _) rfl rfl rfl ?_ (fun _ _ _ h => h) ?_
    rotate_left
    · rintro W ⟨hW1, hW2, hW3⟩
      go_simp
      with_reducible rfl
    try simp only [Act.put, List.setIfInBounds_toArray, List.set_cons_zero, List.set_cons_succ]
  iterate 5
    refine' lex_freeG (v := _) rfl rfl rfl ?_ (fun _ _ _ h => h) ?_
    rotate_left
    · rintro W ⟨hW1, hW2, hW3⟩
      go_simp
      with_reducible rfl
    try simp only [Act.put, List.setIfInBounds_toArray, List.set_cons_zero, List.set_cons_succ]
  refine lex_opG rfl rfl rfl (fun K hK => ?_)
  go_simp
  refine (size_any d _ E _ (DU.out.duo.disk.chg (Chg.refl (fun _ => False) _).drew (fun _ _ h => h))).mono ?_
  rintro e w9 ⟨rfl, rfl⟩
  refine hK _ _ (fun _ => ⟨Q0.out, Q2.out, Q3.out⟩) ?_
  clear hK K
  try simp only [Act.put, List.setIfInBounds_toArray, List.set_cons_zero, List.set_cons_succ]
  iterate 1
    refine' lex_freeG (v := _) rfl rfl rfl ?_ (fun _ _ _ h => h) ?_
    rotate_left
    · rintro W ⟨hW1, hW2, hW3⟩
      go_simp
      with_reducible rfl
    try simp only [Act.put, List.setIfInBounds_toArray, List.set_cons_zero, List.set_cons_succ]
  iterate 2
    refine' lex_free (v := _) rfl rfl rfl ?_ (fun _ _ _ h => h) ?_
    rotate_left
    · rintro W ⟨hW1, hW2, hW3⟩
      go_simp
      with_reducible rfl
    try simp only [Act.put, List.setIfInBounds_toArray, List.set_cons_zero, List.set_cons_succ]
  refine lex_nil ?_
  go_wp2
  go_ret
  exact ⟨rfl, _, _, (DU.out.then (DU.out.duo.quiet (Chg.refl (fun _ => False) _).drew))⟩
set_option maxRecDepth 100000 in
set_option maxHeartbeats 1000000 in
theorem right_arm (w : World) (d r : Nat) (A B : Nat → Prop) (D : Dsk) (On N S : Int) (kv : Value) (h : Duo w d r A B D) (hN : N ≤ 9223372036854775807) :
    Calls Try.prog 27 #[.pointer (some ⟨d, 0, none⟩), .pointer (some ⟨r, 0, none⟩), .agg #[.int .i64 4, .int .i64 On, .int .i64 N, .int .u8 S, kv]] w fun e w' => e = .returned (.bool true) ∧ ∃ A' B', Duo2 w d r A B (D.arm N) w' A' B' := by
  have H1 := Lib.hid (h.quiet ((Chg.refl (fun _ => False) w).alloc (.cells #[.int .i64 4, .int .i64 On, .int .i64 N, .int .u8 S, kv] 54)))
  have b1 : (w.alloc (.cells #[.int .i64 4, .int .i64 On, .int .i64 N, .int .u8 S, kv] 54)).heap[w.heap.size]? = some (.cells #[.int .i64 4, .int .i64 On, .int .i64 N, .int .u8 S, kv] 54 (0, 0)) := hal_new
  have BB := Lib.hid b1
  have k0 := h.la
  have k1 := h.lb
  have K0 := Lib.hid k0; have K1 := Lib.hid k1; have HH := Lib.hid h
  clear b1 k0 k1 h
  generalize hE : D.arm N = E at *
  have HE := Lib.hid hE
  clear hE
  go_enter Try.func27, Try.ntmps27
  go_wp2_with fail
  generalize (w.alloc (.cells #[.int .i64 4, .int .i64 On, .int .i64 N, .int .u8 S, kv] 54)) = W1 at *
  refine (arm_any d A D W1 N hN H1.out.duo.disk).mono ?_
  rintro e w1 ⟨rfl, d1, x1⟩
  rw [HE.out] at d1
  have c2 := cell_of_row w1 w.heap.size 2 _ _ _ (x1.heap BB.out (fun h => by have := K0.out _ h; omega))
  have X1 := Lib.hid x1; have D1 := Lib.hid (d1.mono (G := Ext A W1 w1) (fun _ h _ => .inl h))
  clear d1 x1
  go_wp2_with fail
  refine (rarm_any r B D w1 N hN (H1.out.duo.ref.chg X1.out (fun k hk ha => H1.out.duo.apart k ha hk))).mono ?_
  rintro e w2 ⟨rfl, d2, x2⟩
  rw [HE.out] at d2
  obtain ⟨A', B', du⟩ := H1.out.duo.both D1.out X1.out (Chg.refl _ w1) w2 (d2.mono (G := Ext B w1 w2) (fun _ h _ => .inl h)) x2
  have DU := Lib.hid (H1.out.then du)
  clear d2 x2 du c2
  obtain ⟨kv', wv', hr⟩ := DU.out.duo.ref
  obtain ⟨wa, wc, rfl, _⟩ := ownsRow_form hr.row
  have q0 := hr.cells.1
  have q2 := hr.cells.2.2.1
  have q3 := hr.cells.2.2.2.1
  clear hr
  go_wp2_with fail
  refine wp_region_lex (fun w' => w'.cell? ⟨r, 0, none⟩ = some (.int .i64 E.size) ∧ w'.cell? ⟨r, 2, none⟩ = some (.slice wa E.wait.length wc) ∧ w'.cell? ⟨r, 3, none⟩ = some (.bool E.down)) 99 [1, 9, 19] [0, 2, 3, 4, 5, 1, 6, 7, 8, 10, 11, 12, 13, 14, 9, 15, 16, 17, 18, 20, 21, 22, 23, 19, 24, 25, 26] (by kernel_rfl) (by kernel_rfl) ⟨q0, q2, q3⟩ ?_
  have Q0 := Lib.hid q0; have Q2 := Lib.hid q2; have Q3 := Lib.hid q3
  clear q0 q2 q3
  iterate 5
    refine' lex_free (v := _) rfl rfl rfl ?_ (fun _ _ _ h => h) ?_
    rotate_left
    · rintro W ⟨hW1, hW2, hW3⟩
      go_simp
      with_reducible rfl
    try simp only [Act.put, List.setIfInBounds_toArray, List.set_cons_zero, List.set_cons_succ]
  refine lex_op rfl rfl rfl (fun K hK => ?_)
  go_simp
  refine (down_any d _ E _ (DU.out.duo.disk.chg (Chg.refl (fun _ => False) _).drew (fun _ _ h => h))).mono ?_
  rintro e w9 ⟨rfl, rfl⟩
  refine hK _ _ (fun _ => ⟨Q0.out, Q2.out, Q3.out⟩) ?_
  clear hK K
  try simp only [Act.put, List.setIfInBounds_toArray, List.set_cons_zero, List.set_cons_succ]
  iterate 2
    refine' lex_free (v := _) rfl rfl rfl ?_ (fun _ _ _ h => h) ?_
    rotate_left
    · rintro W ⟨hW1, hW2, hW3⟩
      go_simp
      with_reducible rfl
    try simp only [Act.put, List.setIfInBounds_toArray, List.set_cons_zero, List.set_cons_succ]
  iterate 6
    refine' lex_freeG (v := _) rfl rfl rfl ?_ (fun _ _ _ h => h) ?_
    rotate_left
    · rintro W ⟨hW1, hW2, hW3⟩
      go_simp
      with_reducible rfl
    try simp only [Act.put, List.setIfInBounds_toArray, List.set_cons_zero, List.set_cons_succ]
  refine lex_opG rfl rfl rfl (fun K hK => ?_)
  go_simp
  refine (waiting_any d _ E _ (DU.out.duo.disk.chg (Chg.refl (fun _ => False) _).drew (fun _ _ h => h))).mono ?_
  rintro e w9 ⟨rfl, rfl⟩
  refine hK _ _ (fun _ => ⟨Q0.out, Q2.out, Q3.out⟩) ?_
  clear hK K
  try simp only [Act.put, List.setIfInBounds_toArray, List.set_cons_zero, List.set_cons_succ]
  iterate 1
    refine' lex_freeG (v := _) rfl rfl rfl ?_ (fun _ _ _ h => h) ?_
    rotate_left
    · rintro W ⟨hW1, hW2, hW3⟩
      go_simp
      with_reducible rfl
    try simp only [Act.put, List.setIfInBounds_toArray, List.set_cons_zero, List.set_cons_succ]
  iterate 2
    refine' lex_free (v := _) rfl rfl rfl ?_ (fun _ _ _ h => h) ?_
    rotate_left
    · rintro W ⟨hW1, hW2, hW3⟩
      go_simp
      with_reducible rfl
    try simp only [Act.put, List.setIfInBounds_toArray, List.set_cons_zero, List.set_cons_succ]
  iterate 5
    refine' lex_freeG (v := _) rfl rfl rfl ?_ (fun _ _ _ h => h) ?_
    rotate_left
    · rintro W ⟨hW1, hW2, hW3⟩
      go_simp
      with_reducible rfl
    try simp only [Act.put, List.setIfInBounds_toArray, List.set_cons_zero, List.set_cons_succ]
  refine lex_opG rfl rfl rfl (fun K hK => ?_)
  go_simp
  refine (size_any d _ E _ (DU.out.duo.disk.chg (Chg.refl (fun _ => False) _).drew (fun _ _ h => h))).mono ?_
  rintro e w9 ⟨rfl, rfl⟩
  refine hK _ _ (fun _ => ⟨Q0.out, Q2.out, Q3.out⟩) ?_
  clear hK K
  try simp only [Act.put, List.setIfInBounds_toArray, List.set_cons_zero, List.set_cons_succ]
  iterate 1
    refine' lex_freeG (v := _) rfl rfl rfl ?_ (fun _ _ _ h => h) ?_
    rotate_left
    · rintro W ⟨hW1, hW2, hW3⟩
      go_simp
      with_reducible rfl
    try simp only [Act.put, List.setIfInBounds_toArray, List.set_cons_zero, List.set_cons_succ]
  iterate 2
    refine' lex_free (v := _) rfl rfl rfl ?_ (fun _ _ _ h => h) ?_
    rotate_left
    · rintro W ⟨hW1, hW2, hW3⟩
      go_simp
      with_reducible rfl
    try simp only [Act.put, List.setIfInBounds_toArray, List.set_cons_zero, List.set_cons_succ]
  refine lex_nil ?_
  go_wp2
  go_ret
  exact ⟨rfl, _, _, (DU.out.then (DU.out.duo.quiet (Chg.refl (fun _ => False) _).drew))⟩
theorem BoolsAt.mono {w : World} {F G : Nat → Prop} {v : Value} {ks : List Bool} (h : BoolsAt w F v ks) (hG : ∀ k, G k → F k) : BoolsAt w G v ks := by
  obtain ⟨ao, c, rfl, hb, h⟩ := h
  refine ⟨ao, c, rfl, hb, fun hk => ?_⟩
  obtain ⟨b, o, rfl, hf, hc⟩ := h hk
  exact ⟨b, o, rfl, fun hg => hf (hG b hg), hc⟩
set_option maxRecDepth 100000 in
set_option maxHeartbeats 1000000 in
theorem right_restart (w : World) (d r : Nat) (A B : Nat → Prop) (D : Dsk) (On N S : Int) (kv : Value) (h : Duo w d r A B D) (ks : List Bool) (hk : BoolsAt w (fun k => A k ∨ B k) kv ks) (hlen : D.wait.length < 3000000000000) :
    Calls Try.prog 27 #[.pointer (some ⟨d, 0, none⟩), .pointer (some ⟨r, 0, none⟩), .agg #[.int .i64 5, .int .i64 On, .int .i64 N, .int .u8 S, kv]] w fun e w' => e = .returned (.bool true) ∧ ∃ A' B', Duo2 w d r A B (D.restart ks) w' A' B' := by
  have HK := Lib.hid (show BoolsAt (w.alloc (.cells #[.int .i64 5, .int .i64 On, .int .i64 N, .int .u8 S, kv] 54)) (fun k => A k ∨ B k) kv ks from hk.chg ((Chg.refl (fun _ => False) w).alloc _) (fun _ h => h.elim))
  obtain ⟨ka, kc, rfl, _⟩ := hk
  have H1 := Lib.hid (h.quiet ((Chg.refl (fun _ => False) w).alloc (.cells #[.int .i64 5, .int .i64 On, .int .i64 N, .int .u8 S, .slice ka ks.length kc] 54)))
  have b1 : (w.alloc (.cells #[.int .i64 5, .int .i64 On, .int .i64 N, .int .u8 S, .slice ka ks.length kc] 54)).heap[w.heap.size]? = some (.cells #[.int .i64 5, .int .i64 On, .int .i64 N, .int .u8 S, .slice ka ks.length kc] 54 (0, 0)) := hal_new
  have BB := Lib.hid b1
  have k0 := h.la
  have k1 := h.lb
  have K0 := Lib.hid k0; have K1 := Lib.hid k1; have HH := Lib.hid h
  clear b1 k0 k1 h
  generalize hE : D.restart ks = E at *
  have HE := Lib.hid hE
  clear hE
  go_enter Try.func27, Try.ntmps27
  go_wp2_with fail
  generalize (w.alloc (.cells #[.int .i64 5, .int .i64 On, .int .i64 N, .int .u8 S, .slice ka ks.length kc] 54)) = W1 at *
  refine (restart_any d A D W1 _ ks H1.out.duo.disk (HK.out.mono (fun _ h => .inl h)) hlen).mono ?_
  rintro e w1 ⟨rfl, d1, x1⟩
  rw [HE.out] at d1
  have c4 := cell_of_row w1 w.heap.size 4 _ _ _ (x1.heap BB.out (fun h => by have := K0.out _ h; omega))
  have HK1 := Lib.hid ((HK.out.chg x1 (fun _ h => .inl h)).mono (G := B) (fun _ h => .inr h))
  have X1 := Lib.hid x1; have D1 := Lib.hid d1
  clear d1 x1
  go_wp2_with fail
  refine (rrestart_any r B D w1 _ ks (H1.out.duo.ref.chg X1.out (fun k hk ha => H1.out.duo.apart k ha hk)) HK1.out).mono ?_
  rintro e w2 ⟨rfl, d2, x2⟩
  rw [HE.out] at d2
  obtain ⟨A', B', du⟩ := H1.out.duo.both D1.out X1.out (Chg.refl _ w1) w2 d2 x2
  have DU := Lib.hid (H1.out.then du)
  clear d2 x2 du c4
  obtain ⟨kv', wv', hr⟩ := DU.out.duo.ref
  obtain ⟨wa, wc, rfl, _⟩ := ownsRow_form hr.row
  have q0 := hr.cells.1
  have q2 := hr.cells.2.2.1
  have q3 := hr.cells.2.2.2.1
  clear hr
  go_wp2_with fail
  refine wp_region_lex (fun w' => w'.cell? ⟨r, 0, none⟩ = some (.int .i64 E.size) ∧ w'.cell? ⟨r, 2, none⟩ = some (.slice wa E.wait.length wc) ∧ w'.cell? ⟨r, 3, none⟩ = some (.bool E.down)) 99 [1, 9, 19] [0, 2, 3, 4, 5, 1, 6, 7, 8, 10, 11, 12, 13, 14, 9, 15, 16, 17, 18, 20, 21, 22, 23, 19, 24, 25, 26] (by kernel_rfl) (by kernel_rfl) ⟨q0, q2, q3⟩ ?_
  have Q0 := Lib.hid q0; have Q2 := Lib.hid q2; have Q3 := Lib.hid q3
  clear q0 q2 q3
  iterate 5
    refine' lex_free (v := _) rfl rfl rfl ?_ (fun _ _ _ h => h) ?_
    rotate_left
    · rintro W ⟨hW1, hW2, hW3⟩
      go_simp
      with_reducible rfl
    try simp only [Act.put, List.setIfInBounds_toArray, List.set_cons_zero, List.set_cons_succ]
  refine lex_op rfl rfl rfl (fun K hK => ?_)
  go_simp
  refine (down_any d _ E _ (DU.out.duo.disk.chg (Chg.refl (fun _ => False) _).drew (fun _ _ h => h))).mono ?_
  rintro e w9 ⟨rfl, rfl⟩
  refine hK _ _ (fun _ => ⟨Q0.out, Q2.out, Q3.out⟩) ?_
  clear hK K
  try simp only [Act.put, List.setIfInBounds_toArray, List.set_cons_zero, List.set_cons_succ]
  iterate 2
    refine' lex_free (v := _) rfl rfl rfl ?_ (fun _ _ _ h => h) ?_
    rotate_left
    · rintro W ⟨hW1, hW2, hW3⟩
      go_simp
      with_reducible rfl
    try simp only [Act.put, List.setIfInBounds_toArray, List.set_cons_zero, List.set_cons_succ]
  iterate 6
    refine' lex_freeG (v := _) rfl rfl rfl ?_ (fun _ _ _ h => h) ?_
    rotate_left
    · rintro W ⟨hW1, hW2, hW3⟩
      go_simp
      with_reducible rfl
    try simp only [Act.put, List.setIfInBounds_toArray, List.set_cons_zero, List.set_cons_succ]
  refine lex_opG rfl rfl rfl (fun K hK => ?_)
  go_simp
  refine (waiting_any d _ E _ (DU.out.duo.disk.chg (Chg.refl (fun _ => False) _).drew (fun _ _ h => h))).mono ?_
  rintro e w9 ⟨rfl, rfl⟩
  refine hK _ _ (fun _ => ⟨Q0.out, Q2.out, Q3.out⟩) ?_
  clear hK K
  try simp only [Act.put, List.setIfInBounds_toArray, List.set_cons_zero, List.set_cons_succ]
  iterate 1
    refine' lex_freeG (v := _) rfl rfl rfl ?_ (fun _ _ _ h => h) ?_
    rotate_left
    · rintro W ⟨hW1, hW2, hW3⟩
      go_simp
      with_reducible rfl
    try simp only [Act.put, List.setIfInBounds_toArray, List.set_cons_zero, List.set_cons_succ]
  iterate 2
    refine' lex_free (v := _) rfl rfl rfl ?_ (fun _ _ _ h => h) ?_
    rotate_left
    · rintro W ⟨hW1, hW2, hW3⟩
      go_simp
      with_reducible rfl
    try simp only [Act.put, List.setIfInBounds_toArray, List.set_cons_zero, List.set_cons_succ]
  iterate 5
    refine' lex_freeG (v := _) rfl rfl rfl ?_ (fun _ _ _ h => h) ?_
    rotate_left
    · rintro W ⟨hW1, hW2, hW3⟩
      go_simp
      with_reducible rfl
    try simp only [Act.put, List.setIfInBounds_toArray, List.set_cons_zero, List.set_cons_succ]
  refine lex_opG rfl rfl rfl (fun K hK => ?_)
  go_simp
  refine (size_any d _ E _ (DU.out.duo.disk.chg (Chg.refl (fun _ => False) _).drew (fun _ _ h => h))).mono ?_
  rintro e w9 ⟨rfl, rfl⟩
  refine hK _ _ (fun _ => ⟨Q0.out, Q2.out, Q3.out⟩) ?_
  clear hK K
  try simp only [Act.put, List.setIfInBounds_toArray, List.set_cons_zero, List.set_cons_succ]
  iterate 1
    refine' lex_freeG (v := _) rfl rfl rfl ?_ (fun _ _ _ h => h) ?_
    rotate_left
    · rintro W ⟨hW1, hW2, hW3⟩
      go_simp
      with_reducible rfl
    try simp only [Act.put, List.setIfInBounds_toArray, List.set_cons_zero, List.set_cons_succ]
  iterate 2
    refine' lex_free (v := _) rfl rfl rfl ?_ (fun _ _ _ h => h) ?_
    rotate_left
    · rintro W ⟨hW1, hW2, hW3⟩
      go_simp
      with_reducible rfl
    try simp only [Act.put, List.setIfInBounds_toArray, List.set_cons_zero, List.set_cons_succ]
  refine lex_nil ?_
  go_wp2
  go_ret
  exact ⟨rfl, _, _, (DU.out.then (DU.out.duo.quiet (Chg.refl (fun _ => False) _).drew))⟩
set_option maxRecDepth 100000 in
set_option maxHeartbeats 1000000 in
theorem right_read (w : World) (d r : Nat) (A B : Nat → Prop) (D : Dsk) (On N S : Int) (kv : Value) (h : Duo w d r A B D) :
    Calls Try.prog 27 #[.pointer (some ⟨d, 0, none⟩), .pointer (some ⟨r, 0, none⟩), .agg #[.int .i64 2, .int .i64 On, .int .i64 N, .int .u8 S, kv]] w fun e w' => e = .returned (.bool true) ∧ ∃ A' B', Duo2 w d r A B (D) w' A' B' := by
  have H1 := Lib.hid (h.quiet ((Chg.refl (fun _ => False) w).alloc (.cells #[.int .i64 2, .int .i64 On, .int .i64 N, .int .u8 S, kv] 54)))
  have b1 : (w.alloc (.cells #[.int .i64 2, .int .i64 On, .int .i64 N, .int .u8 S, kv] 54)).heap[w.heap.size]? = some (.cells #[.int .i64 2, .int .i64 On, .int .i64 N, .int .u8 S, kv] 54 (0, 0)) := hal_new
  have BB := Lib.hid b1
  have k0 := h.la
  have k1 := h.lb
  have K0 := Lib.hid k0; have K1 := Lib.hid k1; have HH := Lib.hid h
  clear b1 k0 k1 h
  have hrl : (D.readR N).length = 64 := by
    unfold Dsk.readR
    split
    · exact HH.out.disk.ok.2.2.2.2.1 N
    · exact sec0_len
  have l1 := (secC_len (D.readR N)).trans hrl
  have i1 := info_secC hrl
  have o1 := secC_one (D.readR N)
  have q1 := sec_equal_self (D.readR N) hrl
  obtain ⟨cs, hcs⟩ : ∃ cs, secC (D.readR N) = cs := ⟨_, rfl⟩
  obtain ⟨EE, hEE⟩ : ∃ EE, errOf D.size D.down N = EE := ⟨_, rfl⟩
  rw [hcs] at l1 i1 o1 q1
  have hr1 : secV (D.readR N) = .agg cs.toArray := by rw [← hcs]; rfl
  have L1 := Lib.hid l1; have I1 := Lib.hid i1; have O1 := Lib.hid o1; have Q1 := Lib.hid q1; have HCS := Lib.hid hcs; have HEE := Lib.hid hEE; have HR1 := Lib.hid hr1
  have HZ := Lib.hid info_sec0
  clear hr1 hrl l1 i1 o1 q1 hcs hEE
  go_enter Try.func27, Try.ntmps27
  go_wp2_with fail
  generalize (w.alloc (.cells #[.int .i64 2, .int .i64 On, .int .i64 N, .int .u8 S, kv] 54)) = W1 at *
  refine (read_any d A D N W1 H1.out.duo.disk).mono ?_
  rintro e w1 ⟨rfl, x1⟩
  rw [HR1.out, HEE.out]
  have H2 := Lib.hid (H1.out.then (H1.out.duo.quiet (x1.alloc (.cells cs.toArray 31))))
  have B2 := Lib.hid ((hal_old (o := .cells cs.toArray 31) (lt_of_heap (x1.heap BB.out (fun h => h)))).trans (x1.heap BB.out (fun h => h)))
  clear x1
  have c2 := cell_of_row _ w.heap.size 2 _ _ _ B2.out
  go_wp2_with (first | (refine wpList_alloc_big rfl 31 64 rfl HZ.out (fun zs hzs => ?_); have HZ1 := Lib.hid hzs; clear hzs) | (refine wpList_store_new rfl 31 _ _ rfl cs _ rfl rfl rfl (L1.out.trans HZ1.out.symm) I1.out O1.out ?_))
  have S2 := Lib.hid (hal_new (w := w1) (o := .cells cs.toArray 31))
  generalize hW2 : (w1.alloc (.cells cs.toArray 31)) = W2 at *
  clear hW2
  refine (rread_any r B D N W2 H2.out.duo.ref).mono ?_
  rintro e w3 ⟨rfl, x3⟩
  rw [HCS.out, HEE.out]
  have DU := Lib.hid (H2.out.then (H2.out.duo.quiet (x3.alloc (.cells cs.toArray 31))))
  have S3 := Lib.hid (x3.heap S2.out (fun h => h))
  have l3 := lt_of_heap S3.out
  have RA := Lib.hid (range_of_heap (hal_old (w := w3) (o := .cells cs.toArray 31) l3) (range_block S3.out)); have RB := Lib.hid (range_block (hal_new (w := w3) (o := .cells cs.toArray 31)))
  clear x3 c2
  have q1 := Q1.out
  have qg := sec_guard
  go_wp2_with (first | (refine wpList_alloc_big rfl 31 64 rfl HZ.out (fun zs hzs => ?_); have HZ2 := Lib.hid hzs; clear hzs) | (refine wpList_store_new rfl 31 _ _ rfl cs _ rfl rfl rfl (L1.out.trans HZ2.out.symm) I1.out O1.out ?_) | (refine wpList_load_big rfl 31 _ rfl w1.heap.size 0 rfl cs _ RA.out Try.underlying31 rfl I1.out ?_) | (refine wpList_load_big rfl 31 _ rfl w3.heap.size 0 rfl cs _ RB.out Try.underlying31 rfl I1.out ?_))
  generalize (w3.alloc (.cells cs.toArray 31)) = W3 at *
  obtain ⟨kv', wv', hr⟩ := DU.out.duo.ref
  obtain ⟨wa, wc, rfl, _⟩ := ownsRow_form hr.row
  have q0 := hr.cells.1
  have q2 := hr.cells.2.2.1
  have q3 := hr.cells.2.2.2.1
  clear hr
  go_wp2_with fail
  refine wp_region_lex (fun w' => w'.cell? ⟨r, 0, none⟩ = some (.int .i64 D.size) ∧ w'.cell? ⟨r, 2, none⟩ = some (.slice wa D.wait.length wc) ∧ w'.cell? ⟨r, 3, none⟩ = some (.bool D.down)) 99 [1, 9, 19] [0, 2, 3, 4, 5, 1, 6, 7, 8, 10, 11, 12, 13, 14, 9, 15, 16, 17, 18, 20, 21, 22, 23, 19, 24, 25, 26] (by kernel_rfl) (by kernel_rfl) ⟨q0, q2, q3⟩ ?_
  have Q0 := Lib.hid q0; have Q2 := Lib.hid q2; have Q3 := Lib.hid q3
  clear q0 q2 q3
  iterate 5
    refine' lex_free (v := _) rfl rfl rfl ?_ (fun _ _ _ h => h) ?_
    rotate_left
    · rintro W ⟨hW1, hW2, hW3⟩
      go_simp
      with_reducible rfl
    try simp only [Act.put, List.setIfInBounds_toArray, List.set_cons_zero, List.set_cons_succ]
  refine lex_op rfl rfl rfl (fun K hK => ?_)
  go_simp
  refine (down_any d _ D _ (DU.out.duo.disk.chg (Chg.refl (fun _ => False) _).drew (fun _ _ h => h))).mono ?_
  rintro e w9 ⟨rfl, rfl⟩
  refine hK _ _ (fun _ => ⟨Q0.out, Q2.out, Q3.out⟩) ?_
  clear hK K
  try simp only [Act.put, List.setIfInBounds_toArray, List.set_cons_zero, List.set_cons_succ]
  iterate 2
    refine' lex_free (v := _) rfl rfl rfl ?_ (fun _ _ _ h => h) ?_
    rotate_left
    · rintro W ⟨hW1, hW2, hW3⟩
      go_simp
      with_reducible rfl
    try simp only [Act.put, List.setIfInBounds_toArray, List.set_cons_zero, List.set_cons_succ]
  iterate 6
    refine' lex_freeG (v := _) rfl rfl rfl ?_ (fun _ _ _ h => h) ?_
    rotate_left
    · rintro W ⟨hW1, hW2, hW3⟩
      go_simp
      with_reducible rfl
    try simp only [Act.put, List.setIfInBounds_toArray, List.set_cons_zero, List.set_cons_succ]
  refine lex_opG rfl rfl rfl (fun K hK => ?_)
  go_simp
  refine (waiting_any d _ D _ (DU.out.duo.disk.chg (Chg.refl (fun _ => False) _).drew (fun _ _ h => h))).mono ?_
  rintro e w9 ⟨rfl, rfl⟩
  refine hK _ _ (fun _ => ⟨Q0.out, Q2.out, Q3.out⟩) ?_
  clear hK K
  try simp only [Act.put, List.setIfInBounds_toArray, List.set_cons_zero, List.set_cons_succ]
  iterate 1
    refine' lex_freeG (v := _) rfl rfl rfl ?_ (fun _ _ _ h => h) ?_
    rotate_left
    · rintro W ⟨hW1, hW2, hW3⟩
      go_simp
      with_reducible rfl
    try simp only [Act.put, List.setIfInBounds_toArray, List.set_cons_zero, List.set_cons_succ]
  iterate 2
    refine' lex_free (v := _) rfl rfl rfl ?_ (fun _ _ _ h => h) ?_
    rotate_left
    · rintro W ⟨hW1, hW2, hW3⟩
      go_simp
      with_reducible rfl
    try simp only [Act.put, List.setIfInBounds_toArray, List.set_cons_zero, List.set_cons_succ]
  iterate 5
    refine' lex_freeG (v := _) rfl rfl rfl ?_ (fun _ _ _ h => h) ?_
    rotate_left
    · rintro W ⟨hW1, hW2, hW3⟩
      go_simp
      with_reducible rfl
    try simp only [Act.put, List.setIfInBounds_toArray, List.set_cons_zero, List.set_cons_succ]
  refine lex_opG rfl rfl rfl (fun K hK => ?_)
  go_simp
  refine (size_any d _ D _ (DU.out.duo.disk.chg (Chg.refl (fun _ => False) _).drew (fun _ _ h => h))).mono ?_
  rintro e w9 ⟨rfl, rfl⟩
  refine hK _ _ (fun _ => ⟨Q0.out, Q2.out, Q3.out⟩) ?_
  clear hK K
  try simp only [Act.put, List.setIfInBounds_toArray, List.set_cons_zero, List.set_cons_succ]
  iterate 1
    refine' lex_freeG (v := _) rfl rfl rfl ?_ (fun _ _ _ h => h) ?_
    rotate_left
    · rintro W ⟨hW1, hW2, hW3⟩
      go_simp
      with_reducible rfl
    try simp only [Act.put, List.setIfInBounds_toArray, List.set_cons_zero, List.set_cons_succ]
  iterate 2
    refine' lex_free (v := _) rfl rfl rfl ?_ (fun _ _ _ h => h) ?_
    rotate_left
    · rintro W ⟨hW1, hW2, hW3⟩
      go_simp
      with_reducible rfl
    try simp only [Act.put, List.setIfInBounds_toArray, List.set_cons_zero, List.set_cons_succ]
  refine lex_nil ?_
  go_wp2
  go_ret
  exact ⟨rfl, _, _, (DU.out.then (DU.out.duo.quiet (Chg.refl (fun _ => False) _).drew))⟩
set_option maxRecDepth 100000 in
set_option maxHeartbeats 1000000 in
theorem right_else (w : World) (d r : Nat) (A B : Nat → Prop) (D : Dsk) (K On N S : Int) (kv : Value) (h : Duo w d r A B D) (h1 : K ≠ 1) (h2 : K ≠ 2) (h3 : K ≠ 3) (h4 : K ≠ 4) (h5 : K ≠ 5) :
    Calls Try.prog 27 #[.pointer (some ⟨d, 0, none⟩), .pointer (some ⟨r, 0, none⟩), .agg #[.int .i64 K, .int .i64 On, .int .i64 N, .int .u8 S, kv]] w fun e w' => e = .returned (.bool true) ∧ ∃ A' B', Duo2 w d r A B (D) w' A' B' := by
  have H1 := Lib.hid (h.quiet ((Chg.refl (fun _ => False) w).alloc (.cells #[.int .i64 K, .int .i64 On, .int .i64 N, .int .u8 S, kv] 54)))
  have b1 : (w.alloc (.cells #[.int .i64 K, .int .i64 On, .int .i64 N, .int .u8 S, kv] 54)).heap[w.heap.size]? = some (.cells #[.int .i64 K, .int .i64 On, .int .i64 N, .int .u8 S, kv] 54 (0, 0)) := hal_new
  have BB := Lib.hid b1
  have k0 := h.la
  have k1 := h.lb
  have K0 := Lib.hid k0; have K1 := Lib.hid k1; have HH := Lib.hid h
  clear b1 k0 k1 h
  have q1 : (K == 1) = false := by simp [h1]
  have q2 : (K == 2) = false := by simp [h2]
  have q3 : (K == 3) = false := by simp [h3]
  have q4 : (K == 4) = false := by simp [h4]
  have q5 : (K == 5) = false := by simp [h5]
  clear h1 h2 h3 h4 h5
  go_enter Try.func27, Try.ntmps27
  have DU := Lib.hid H1.out
  obtain ⟨kv', wv', hr⟩ := DU.out.duo.ref
  obtain ⟨wa, wc, rfl, _⟩ := ownsRow_form hr.row
  have q0 := hr.cells.1
  have q2 := hr.cells.2.2.1
  have q3 := hr.cells.2.2.2.1
  clear hr
  go_wp2_with fail
  refine wp_region_lex (fun w' => w'.cell? ⟨r, 0, none⟩ = some (.int .i64 D.size) ∧ w'.cell? ⟨r, 2, none⟩ = some (.slice wa D.wait.length wc) ∧ w'.cell? ⟨r, 3, none⟩ = some (.bool D.down)) 99 [1, 9, 19] [0, 2, 3, 4, 5, 1, 6, 7, 8, 10, 11, 12, 13, 14, 9, 15, 16, 17, 18, 20, 21, 22, 23, 19, 24, 25, 26] (by kernel_rfl) (by kernel_rfl) ⟨q0, q2, q3⟩ ?_
  have Q0 := Lib.hid q0; have Q2 := Lib.hid q2; have Q3 := Lib.hid q3
  clear q0 q2 q3
  iterate 5
    refine' lex_free (v := _) rfl rfl rfl ?_ (fun _ _ _ h => h) ?_
    rotate_left
    · rintro W ⟨hW1, hW2, hW3⟩
      go_simp
      with_reducible rfl
    try simp only [Act.put, List.setIfInBounds_toArray, List.set_cons_zero, List.set_cons_succ]
  refine lex_op rfl rfl rfl (fun K hK => ?_)
  go_simp
  refine (down_any d _ D _ (DU.out.duo.disk.chg (Chg.refl (fun _ => False) _).drew (fun _ _ h => h))).mono ?_
  rintro e w9 ⟨rfl, rfl⟩
  refine hK _ _ (fun _ => ⟨Q0.out, Q2.out, Q3.out⟩) ?_
  clear hK K
  try simp only [Act.put, List.setIfInBounds_toArray, List.set_cons_zero, List.set_cons_succ]
  iterate 2
    refine' lex_free (v := _) rfl rfl rfl ?_ (fun _ _ _ h => h) ?_
    rotate_left
    · rintro W ⟨hW1, hW2, hW3⟩
      go_simp
      with_reducible rfl
    try simp only [Act.put, List.setIfInBounds_toArray, List.set_cons_zero, List.set_cons_succ]
  iterate 6
    refine' lex_freeG (v := _) rfl rfl rfl ?_ (fun _ _ _ h => h) ?_
    rotate_left
    · rintro W ⟨hW1, hW2, hW3⟩
      go_simp
      with_reducible rfl
    try simp only [Act.put, List.setIfInBounds_toArray, List.set_cons_zero, List.set_cons_succ]
  refine lex_opG rfl rfl rfl (fun K hK => ?_)
  go_simp
  refine (waiting_any d _ D _ (DU.out.duo.disk.chg (Chg.refl (fun _ => False) _).drew (fun _ _ h => h))).mono ?_
  rintro e w9 ⟨rfl, rfl⟩
  refine hK _ _ (fun _ => ⟨Q0.out, Q2.out, Q3.out⟩) ?_
  clear hK K
  try simp only [Act.put, List.setIfInBounds_toArray, List.set_cons_zero, List.set_cons_succ]
  iterate 1
    refine' lex_freeG (v := _) rfl rfl rfl ?_ (fun _ _ _ h => h) ?_
    rotate_left
    · rintro W ⟨hW1, hW2, hW3⟩
      go_simp
      with_reducible rfl
    try simp only [Act.put, List.setIfInBounds_toArray, List.set_cons_zero, List.set_cons_succ]
  iterate 2
    refine' lex_free (v := _) rfl rfl rfl ?_ (fun _ _ _ h => h) ?_
    rotate_left
    · rintro W ⟨hW1, hW2, hW3⟩
      go_simp
      with_reducible rfl
    try simp only [Act.put, List.setIfInBounds_toArray, List.set_cons_zero, List.set_cons_succ]
  iterate 5
    refine' lex_freeG (v := _) rfl rfl rfl ?_ (fun _ _ _ h => h) ?_
    rotate_left
    · rintro W ⟨hW1, hW2, hW3⟩
      go_simp
      with_reducible rfl
    try simp only [Act.put, List.setIfInBounds_toArray, List.set_cons_zero, List.set_cons_succ]
  refine lex_opG rfl rfl rfl (fun K hK => ?_)
  go_simp
  refine (size_any d _ D _ (DU.out.duo.disk.chg (Chg.refl (fun _ => False) _).drew (fun _ _ h => h))).mono ?_
  rintro e w9 ⟨rfl, rfl⟩
  refine hK _ _ (fun _ => ⟨Q0.out, Q2.out, Q3.out⟩) ?_
  clear hK K
  try simp only [Act.put, List.setIfInBounds_toArray, List.set_cons_zero, List.set_cons_succ]
  iterate 1
    refine' lex_freeG (v := _) rfl rfl rfl ?_ (fun _ _ _ h => h) ?_
    rotate_left
    · rintro W ⟨hW1, hW2, hW3⟩
      go_simp
      with_reducible rfl
    try simp only [Act.put, List.setIfInBounds_toArray, List.set_cons_zero, List.set_cons_succ]
  iterate 2
    refine' lex_free (v := _) rfl rfl rfl ?_ (fun _ _ _ h => h) ?_
    rotate_left
    · rintro W ⟨hW1, hW2, hW3⟩
      go_simp
      with_reducible rfl
    try simp only [Act.put, List.setIfInBounds_toArray, List.set_cons_zero, List.set_cons_succ]
  refine lex_nil ?_
  go_wp2
  go_ret
  exact ⟨rfl, _, _, (DU.out.then (DU.out.duo.quiet (Chg.refl (fun _ => False) _).drew))⟩
end Go.Proofs.Ytihpobpkhhkejaa
