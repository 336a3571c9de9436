/-
  The walk of right where there is no disk. No condition.
-/
import Derived.Test.YtihpobpkhhkejaaD3Right
set_option autoImplicit false
namespace Go.Proofs.Ytihpobpkhhkejaa
open Go Go.RowKit

attribute [local go_sem ↓] exec_build_sec2
set_option maxRecDepth 100000 in
theorem rightn_write (w : World) (On N S : Int) (ka : Option Addr) (kl kc : Nat) :
    Calls Try.prog 27 #[.pointer none, .pointer none, .agg #[.int .i64 1, .int .i64 On, .int .i64 N, .int .u8 S, .slice ka kl kc]] w fun e w' => e = .returned (.bool true) ∧ Chg (fun _ => False) w w' := by
  have X1 := Lib.hid ((Chg.refl (fun _ => False) w).alloc (.cells #[.int .i64 1, .int .i64 On, .int .i64 N, .int .u8 S, .slice ka kl kc] 54))
  have b1 : (w.alloc (.cells #[.int .i64 1, .int .i64 On, .int .i64 N, .int .u8 S, .slice ka kl kc] 54)).heap[w.heap.size]? = some (.cells #[.int .i64 1, .int .i64 On, .int .i64 N, .int .u8 S, .slice ka kl kc] 54 (0, 0)) := hal_new
  have BB := Lib.hid b1
  clear b1
  go_enter Try.func27, Try.ntmps27
  go_wp2_with fail
  generalize (w.alloc (.cells #[.int .i64 1, .int .i64 On, .int .i64 N, .int .u8 S, .slice ka kl kc] 54)) = W1 at *
  have c2 := cell_of_row W1 w.heap.size 2 _ _ _ BB.out
  have c3 := cell_of_row W1 w.heap.size 3 _ _ _ BB.out
  refine wp_region_lex (fun w' => w'.cell? ⟨w.heap.size, 2, none⟩ = some (.int .i64 N) ∧ w'.cell? ⟨w.heap.size, 3, none⟩ = some (.int .u8 S)) 99 [6, 13] [0, 1, 2, 3, 4, 5, 7, 8, 9, 10, 11, 12, 6, 13, 14] (by kernel_rfl) (by kernel_rfl) ⟨c2, c3⟩ ?_
  clear c2 c3
  iterate 12
    refine' lex_free (v := _) rfl rfl rfl ?_ (fun _ _ _ h => h) ?_
    rotate_left
    · rintro W ⟨hW1, hW2⟩
      go_simp
      with_reducible rfl
    try simp only [Act.put, List.setIfInBounds_toArray, List.set_cons_zero, List.set_cons_succ]
  refine lex_op rfl rfl rfl (fun K hK => ?_)
  go_simp
  refine (write_nil N _ _).mono ?_
  rintro e w1 ⟨rfl, x1⟩
  have e1 := x1.heap (show W1.drew.heap[w.heap.size]? = _ from BB.out) (fun h => h)
  refine hK _ _ (fun _ => ⟨cell_of_row w1 w.heap.size 2 _ _ _ e1, cell_of_row w1 w.heap.size 3 _ _ _ e1⟩) ?_
  clear hK K
  have X2 := Lib.hid (X1.out.drew.trans x1 (fun _ h => h.elim)); have E1 := Lib.hid e1
  clear x1 e1
  try simp only [Act.put, List.setIfInBounds_toArray, List.set_cons_zero, List.set_cons_succ]
  refine lex_op rfl rfl rfl (fun K hK => ?_)
  go_simp
  refine (rwrite_nil N (secBB S 9) _).mono ?_
  rintro e w2 ⟨rfl, x2⟩
  have e2 := x2.heap E1.out (fun h => h)
  refine hK _ _ (fun _ => ⟨cell_of_row w2 w.heap.size 2 _ _ _ e2, cell_of_row w2 w.heap.size 3 _ _ _ e2⟩) ?_
  clear hK K
  have X := Lib.hid (X2.out.trans x2 (fun _ h => h.elim))
  clear x2 e2
  try simp only [Act.put, List.setIfInBounds_toArray, List.set_cons_zero, List.set_cons_succ]
  iterate 1
    refine' lex_free (v := _) rfl rfl rfl ?_ (fun _ _ _ h => h) ?_
    rotate_left
    · rintro W ⟨hW1, hW2⟩
      go_simp
      with_reducible rfl
    try simp only [Act.put, List.setIfInBounds_toArray, List.set_cons_zero, List.set_cons_succ]
  refine lex_nil ?_
  go_wp2_with (first | (go_at_call 22; refine (down_nil _).mono ?_; rintro e w9 ⟨rfl, rfl⟩) | (go_at_call 18; refine (waiting_nil _).mono ?_; rintro e w9 ⟨rfl, rfl⟩) | (go_at_call 50; refine (size_nil _).mono ?_; rintro e w9 ⟨rfl, rfl⟩))
  go_ret
  exact ⟨rfl, X.out⟩
set_option maxRecDepth 100000 in
theorem rightn_sync (w : World) (On N S : Int) (ka : Option Addr) (kl kc : Nat) :
    Calls Try.prog 27 #[.pointer none, .pointer none, .agg #[.int .i64 3, .int .i64 On, .int .i64 N, .int .u8 S, .slice ka kl kc]] w fun e w' => e = .returned (.bool true) ∧ Chg (fun _ => False) w w' := by
  have X1 := Lib.hid ((Chg.refl (fun _ => False) w).alloc (.cells #[.int .i64 3, .int .i64 On, .int .i64 N, .int .u8 S, .slice ka kl kc] 54))
  have b1 : (w.alloc (.cells #[.int .i64 3, .int .i64 On, .int .i64 N, .int .u8 S, .slice ka kl kc] 54)).heap[w.heap.size]? = some (.cells #[.int .i64 3, .int .i64 On, .int .i64 N, .int .u8 S, .slice ka kl kc] 54 (0, 0)) := hal_new
  have BB := Lib.hid b1
  clear b1
  go_enter Try.func27, Try.ntmps27
  go_wp2_with fail
  refine (sync_nil _).mono ?_
  rintro e w1 ⟨rfl, rfl⟩
  go_wp2_with fail
  refine (rsync_nil _).mono ?_
  rintro e w1 ⟨rfl, rfl⟩
  go_wp2_with (first | (go_at_call 22; refine (down_nil _).mono ?_; rintro e w9 ⟨rfl, rfl⟩) | (go_at_call 18; refine (waiting_nil _).mono ?_; rintro e w9 ⟨rfl, rfl⟩) | (go_at_call 50; refine (size_nil _).mono ?_; rintro e w9 ⟨rfl, rfl⟩))
  go_ret
  exact ⟨rfl, X1.out⟩
set_option maxRecDepth 100000 in
theorem rightn_arm (w : World) (On N S : Int) (ka : Option Addr) (kl kc : Nat) :
    Calls Try.prog 27 #[.pointer none, .pointer none, .agg #[.int .i64 4, .int .i64 On, .int .i64 N, .int .u8 S, .slice ka kl kc]] w fun e w' => e = .returned (.bool true) ∧ Chg (fun _ => False) w w' := by
  have X1 := Lib.hid ((Chg.refl (fun _ => False) w).alloc (.cells #[.int .i64 4, .int .i64 On, .int .i64 N, .int .u8 S, .slice ka kl kc] 54))
  have b1 : (w.alloc (.cells #[.int .i64 4, .int .i64 On, .int .i64 N, .int .u8 S, .slice ka kl kc] 54)).heap[w.heap.size]? = some (.cells #[.int .i64 4, .int .i64 On, .int .i64 N, .int .u8 S, .slice ka kl kc] 54 (0, 0)) := hal_new
  have BB := Lib.hid b1
  clear b1
  go_enter Try.func27, Try.ntmps27
  go_wp2_with fail
  refine (arm_nil N _).mono ?_
  rintro e w1 ⟨rfl, rfl⟩
  go_wp2_with fail
  refine (rarm_nil N _).mono ?_
  rintro e w1 ⟨rfl, rfl⟩
  go_wp2_with (first | (go_at_call 22; refine (down_nil _).mono ?_; rintro e w9 ⟨rfl, rfl⟩) | (go_at_call 18; refine (waiting_nil _).mono ?_; rintro e w9 ⟨rfl, rfl⟩) | (go_at_call 50; refine (size_nil _).mono ?_; rintro e w9 ⟨rfl, rfl⟩))
  go_ret
  exact ⟨rfl, X1.out⟩
set_option maxRecDepth 100000 in
theorem rightn_restart (w : World) (On N S : Int) (ka : Option Addr) (kl kc : Nat) :
    Calls Try.prog 27 #[.pointer none, .pointer none, .agg #[.int .i64 5, .int .i64 On, .int .i64 N, .int .u8 S, .slice ka kl kc]] w fun e w' => e = .returned (.bool true) ∧ Chg (fun _ => False) w w' := by
  have X1 := Lib.hid ((Chg.refl (fun _ => False) w).alloc (.cells #[.int .i64 5, .int .i64 On, .int .i64 N, .int .u8 S, .slice ka kl kc] 54))
  have b1 : (w.alloc (.cells #[.int .i64 5, .int .i64 On, .int .i64 N, .int .u8 S, .slice ka kl kc] 54)).heap[w.heap.size]? = some (.cells #[.int .i64 5, .int .i64 On, .int .i64 N, .int .u8 S, .slice ka kl kc] 54 (0, 0)) := hal_new
  have BB := Lib.hid b1
  clear b1
  go_enter Try.func27, Try.ntmps27
  go_wp2_with fail
  refine (restart_nil _ _).mono ?_
  rintro e w1 ⟨rfl, rfl⟩
  go_wp2_with fail
  refine (rrestart_nil _ _).mono ?_
  rintro e w1 ⟨rfl, rfl⟩
  go_wp2_with (first | (go_at_call 22; refine (down_nil _).mono ?_; rintro e w9 ⟨rfl, rfl⟩) | (go_at_call 18; refine (waiting_nil _).mono ?_; rintro e w9 ⟨rfl, rfl⟩) | (go_at_call 50; refine (size_nil _).mono ?_; rintro e w9 ⟨rfl, rfl⟩))
  go_ret
  exact ⟨rfl, X1.out⟩
set_option maxRecDepth 100000 in
theorem rightn_read (w : World) (On N S : Int) (ka : Option Addr) (kl kc : Nat) :
    Calls Try.prog 27 #[.pointer none, .pointer none, .agg #[.int .i64 2, .int .i64 On, .int .i64 N, .int .u8 S, .slice ka kl kc]] w fun e w' => e = .returned (.bool true) ∧ Chg (fun _ => False) w w' := by
  have X1 := Lib.hid ((Chg.refl (fun _ => False) w).alloc (.cells #[.int .i64 2, .int .i64 On, .int .i64 N, .int .u8 S, .slice ka kl kc] 54))
  have b1 : (w.alloc (.cells #[.int .i64 2, .int .i64 On, .int .i64 N, .int .u8 S, .slice ka kl kc] 54)).heap[w.heap.size]? = some (.cells #[.int .i64 2, .int .i64 On, .int .i64 N, .int .u8 S, .slice ka kl kc] 54 (0, 0)) := hal_new
  have BB := Lib.hid b1
  clear b1
  have L1 := Lib.hid ((secC_len sec0).trans sec0_len); have I1 := Lib.hid (info_secC sec0_len); have O1 := Lib.hid (secC_one sec0)
  have Q1 := Lib.hid (sec_equal_self sec0 sec0_len)
  have HZ := Lib.hid info_sec0
  go_enter Try.func27, Try.ntmps27
  go_wp2_with fail
  generalize (w.alloc (.cells #[.int .i64 2, .int .i64 On, .int .i64 N, .int .u8 S, .slice ka kl kc] 54)) = W1 at *
  refine (read_nil N W1).mono ?_
  rintro e w1 ⟨rfl, x1⟩
  obtain ⟨cs, hcs⟩ : ∃ cs, secC sec0 = cs := ⟨_, rfl⟩
  have HCS := Lib.hid hcs
  rw [hcs] at L1 I1 O1 Q1 ⊢
  clear hcs
  have X2 := Lib.hid ((X1.out.trans x1 (fun _ h => h.elim)).alloc (.cells cs.toArray 31))
  have B2 := Lib.hid ((hal_old (o := .cells cs.toArray 31) (lt_of_heap (x1.heap BB.out (fun h => h)))).trans (x1.heap BB.out (fun h => h)))
  clear x1
  have c2 := cell_of_row _ w.heap.size 2 _ _ _ B2.out
  go_wp2_with (first | (refine wpList_alloc_big rfl 31 64 rfl HZ.out (fun zs hzs => ?_); have HZ1 := Lib.hid hzs; clear hzs) | (refine wpList_store_new rfl 31 _ _ rfl cs _ rfl rfl rfl (L1.out.trans HZ1.out.symm) I1.out O1.out ?_))
  have S2 := Lib.hid (hal_new (w := w1) (o := .cells cs.toArray 31))
  generalize hW2 : (w1.alloc (.cells cs.toArray 31)) = W2 at *
  clear hW2
  refine (rread_nil N W2).mono ?_
  rintro e w3 ⟨rfl, x3⟩
  rw [HCS.out]
  have X := Lib.hid ((X2.out.trans x3 (fun _ h => h.elim)).alloc (.cells cs.toArray 31))
  have S3 := Lib.hid (x3.heap S2.out (fun h => h))
  have l3 := lt_of_heap S3.out
  have RA := Lib.hid (range_of_heap (hal_old (w := w3) (o := .cells cs.toArray 31) l3) (range_block S3.out)); have RB := Lib.hid (range_block (hal_new (w := w3) (o := .cells cs.toArray 31)))
  clear x3 c2
  have q1 := Q1.out
  have qg := sec_guard
  go_wp2_with (first | (refine wpList_alloc_big rfl 31 64 rfl HZ.out (fun zs hzs => ?_); have HZ2 := Lib.hid hzs; clear hzs) | (refine wpList_store_new rfl 31 _ _ rfl cs _ rfl rfl rfl (L1.out.trans HZ2.out.symm) I1.out O1.out ?_) | (refine wpList_load_big rfl 31 _ rfl w1.heap.size 0 rfl cs _ RA.out Try.underlying31 rfl I1.out ?_) | (refine wpList_load_big rfl 31 _ rfl w3.heap.size 0 rfl cs _ RB.out Try.underlying31 rfl I1.out ?_) | (go_at_call 22; refine (down_nil _).mono ?_; rintro e w9 ⟨rfl, rfl⟩) | (go_at_call 18; refine (waiting_nil _).mono ?_; rintro e w9 ⟨rfl, rfl⟩) | (go_at_call 50; refine (size_nil _).mono ?_; rintro e w9 ⟨rfl, rfl⟩))
  go_ret
  exact ⟨rfl, X.out⟩
set_option maxRecDepth 100000 in
theorem rightn_else (w : World) (K On N S : Int) (ka : Option Addr) (kl kc : Nat) (h1 : K ≠ 1) (h2 : K ≠ 2) (h3 : K ≠ 3) (h4 : K ≠ 4) (h5 : K ≠ 5) :
    Calls Try.prog 27 #[.pointer none, .pointer none, .agg #[.int .i64 K, .int .i64 On, .int .i64 N, .int .u8 S, .slice ka kl kc]] w fun e w' => e = .returned (.bool true) ∧ Chg (fun _ => False) w w' := by
  have X1 := Lib.hid ((Chg.refl (fun _ => False) w).alloc (.cells #[.int .i64 K, .int .i64 On, .int .i64 N, .int .u8 S, .slice ka kl kc] 54))
  have b1 : (w.alloc (.cells #[.int .i64 K, .int .i64 On, .int .i64 N, .int .u8 S, .slice ka kl kc] 54)).heap[w.heap.size]? = some (.cells #[.int .i64 K, .int .i64 On, .int .i64 N, .int .u8 S, .slice ka kl kc] 54 (0, 0)) := hal_new
  have BB := Lib.hid b1
  clear b1
  have q1 : (K == 1) = false := by simp [h1]
  have q2 : (K == 2) = false := by simp [h2]
  have q3 : (K == 3) = false := by simp [h3]
  have q4 : (K == 4) = false := by simp [h4]
  have q5 : (K == 5) = false := by simp [h5]
  clear h1 h2 h3 h4 h5
  go_enter Try.func27, Try.ntmps27
  go_wp2_with (first | (go_at_call 22; refine (down_nil _).mono ?_; rintro e w9 ⟨rfl, rfl⟩) | (go_at_call 18; refine (waiting_nil _).mono ?_; rintro e w9 ⟨rfl, rfl⟩) | (go_at_call 50; refine (size_nil _).mono ?_; rintro e w9 ⟨rfl, rfl⟩))
  go_ret
  exact ⟨rfl, X1.out⟩
/-- one call on two disks, whatever it is -/
theorem right_any (w : World) (d r : Nat) (A B : Nat → Prop) (D : Dsk) (K On N S : Int) (kv : Value) (ks : List Bool) (h : Duo w d r A B D) (hN : N ≤ 9223372036854775807) (hk : BoolsAt w (fun k => A k ∨ B k) kv ks) (hlen : D.wait.length < 3000000000000) :
    Calls Try.prog 27 #[.pointer (some ⟨d, 0, none⟩), .pointer (some ⟨r, 0, none⟩), .agg #[.int .i64 K, .int .i64 On, .int .i64 N, .int .u8 S, kv]] w fun e w' => e = .returned (.bool true) ∧ ∃ A' B', Duo2 w d r A B (stepD K N S ks D) w' A' B' := by
  unfold stepD
  by_cases h1 : K = 1
  · subst h1; exact right_write w d r A B D On N S kv h hlen
  · rw [if_neg h1]
    by_cases h2 : K = 2
    · subst h2; rw [if_neg (by decide), if_neg (by decide), if_neg (by decide)]; exact right_read w d r A B D On N S kv h
    · by_cases h3 : K = 3
      · subst h3; rw [if_pos rfl]; exact right_sync w d r A B D On N S kv h hlen
      · rw [if_neg h3]
        by_cases h4 : K = 4
        · subst h4; rw [if_pos rfl]; exact right_arm w d r A B D On N S kv h hN
        · rw [if_neg h4]
          by_cases h5 : K = 5
          · subst h5; rw [if_pos rfl]; exact right_restart w d r A B D On N S kv h ks hk hlen
          · rw [if_neg h5]; exact right_else w d r A B D K On N S kv h h1 h2 h3 h4 h5
theorem rightn_any (w : World) (K On N S : Int) (ka : Option Addr) (kl kc : Nat) :
    Calls Try.prog 27 #[.pointer none, .pointer none, .agg #[.int .i64 K, .int .i64 On, .int .i64 N, .int .u8 S, .slice ka kl kc]] w fun e w' => e = .returned (.bool true) ∧ Chg (fun _ => False) w w' := by
  by_cases h1 : K = 1
  · subst h1; exact rightn_write w On N S ka kl kc
  · by_cases h2 : K = 2
    · subst h2; exact rightn_read w On N S ka kl kc
    · by_cases h3 : K = 3
      · subst h3; exact rightn_sync w On N S ka kl kc
      · by_cases h4 : K = 4
        · subst h4; exact rightn_arm w On N S ka kl kc
        · by_cases h5 : K = 5
          · subst h5; exact rightn_restart w On N S ka kl kc
          · exact rightn_else w K On N S ka kl kc h1 h2 h3 h4 h5
end Go.Proofs.Ytihpobpkhhkejaa
