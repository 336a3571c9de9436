/-
  What the disk's Write does. Conditions: a disk stands at the address, fewer than 3000000000000 writes wait.
-/
import Derived.Test.YtihpobpkhhkejaaDisk
set_option autoImplicit false
namespace Go.Proofs.Ytihpobpkhhkejaa
open Go Go.RowKit
attribute [local go_sem ↓] exec_build_wr exec_slice_wr
theorem errOf_zero {size n : Int} {down : Bool} (h : errOf size down n = 0) : 0 ≤ n ∧ n < size ∧ down = false := by
  unfold errOf at h
  split at h
  · cases h
  · cases down
    · exact ⟨by omega, by omega, rfl⟩
    · simp at h
set_option maxRecDepth 100000 in
set_option maxHeartbeats 1000000 in
theorem write_ok (r : Nat) (F : Nat → Prop) (D : Dsk) (n : Int) (s : Sec) (w : World) (h : DiskAt w r F D) (hs : s.length = 64) (he : errOf D.size D.down n = 0) (hlen : D.wait.length < 3000000000000) :
    Calls Try.prog 16 #[.pointer (some ⟨r, 0, none⟩), .int .i64 n, secV s] w fun e w' => e = .returned (.int .i64 0) ∧ DiskAt w' r (Ext F w w') (D.write n s) ∧ Chg F w w' := by
  obtain ⟨nb, kb, wv, esn, esk, cn, ck, h⟩ := h
  obtain ⟨c0, c1, c2, c3, c4, c5, c6⟩ := h.cells
  obtain ⟨hn0, hn1, hd⟩ := errOf_zero he
  have hm : mayR D.size D.down n = 0 := by rw [mayR_lt hn1]; exact he
  have hso := h.ok.1
  have hnb := lt_of_heap h.now
  have hfr := h.free 3
  have hmu : (Instr.mapUpdate 88 (.map (some nb)) (.int .i64 n) (.agg (secC s).toArray)).run Try.prog (w.alloc (.cells (secC s).toArray 31)).drew = .ok () (setObj (w.alloc (.cells (secC s).toArray 31)).drew nb (.map (mput esn cn (.int .i64 n) (secV s)) (mclock esn cn (.int .i64 n)))) :=
    run_mapUpdate _ Try.underlying88 Try.underlying3 (by rfl) (by show (w.alloc _).heap[nb]? = _; rw [hal_old hnb]; exact h.now) h.nowIs.1
  unfold secV
  have hcl : (secC s).length = 64 := by simp [hs]
  generalize hcs : secC s = cs at *
  have hu : Try.prog.underlying 31 = some (.array 64 5) := Try.underlying31
  have hi : (Try.prog.info? 31).map (·.size) = some cs.length := by rw [hcl]; kernel_rfl
  have HM := Lib.hid hm; have HE := Lib.hid he; have HCS := Lib.hid hcs; have HCL := Lib.hid hcl; have HS := Lib.hid hs; have HH := Lib.hid h; have HMU := Lib.hid hmu
  have HU := Lib.hid hu; have HI := Lib.hid hi
  clear hm he hcs hcl hs h hmu hu hi
  go_enter Try.func16, Try.ntmps16
  go_wp2_with fail
  refine (may_any _ _ D.size D.down _ ?_ ?_).mono ?_
  · rw [World.cell?_alloc_lt _ _ _ c6]; exact c0
  · rw [World.cell?_alloc_lt _ _ _ c6]; exact c4
  rintro e w' ⟨rfl, rfl⟩
  rw [HM.out]
  go_wp2_with fail
  have hu := HU.out
  have hi := HI.out
  have hmu := HMU.out
  have hrg : (w.alloc (.cells cs.toArray 31)).rangeAt w.heap.size 0 cs := by
    intro j v hv
    simpa using hv
  have hc1 : (w.alloc (.cells cs.toArray 31)).cell? ⟨r, 1, none⟩ = some (.map (some nb)) := by rw [World.cell?_alloc_lt _ _ _ c6]; exact c1
  have hnr : r ≠ nb := fun e => HH.out.ner.1 e.symm
  have hbn : w.heap.size ≠ nb := by omega
  go_region_held3 (fun w' => w'.cell? ⟨r, 1, none⟩ = some (.map (some nb)) ∧ w'.rangeAt w.heap.size 0 cs) ((refine ⟨?_, ?_⟩ <;> first | assumption | exact (cell_obj hnr).trans hc1 | exact range_of_heap (hobj_ne hbn) hrg)) (fail)
  obtain ⟨W1, hW1⟩ : ∃ W1, W1 = setObj (w.alloc (.cells cs.toArray 31)).drew nb (.map (mput esn cn (.int .i64 n) (secV s)) (mclock esn cn (.int .i64 n))) := ⟨_, rfl⟩
  rw [← hW1]
  have hx := HH.out
  have zW : W1.heap.size = w.heap.size + 1 := by subst hW1; simp
  have cW : Chg F w W1 := by subst hW1; exact ((Chg.refl F w).alloc _).drew.setObj (.inl hx.fn) _
  have sW : W1.heap[r]? = some (.cells #[.int .i64 D.size, .map (some nb), .map (some kb), wv, .bool D.down, .int .i64 D.left] 91 (0, 0)) := by
    subst hW1; rw [hobj_ne hnr]; exact (hal_old c6).trans hx.self
  have nW : W1.heap[nb]? = some (.map (mput esn cn (.int .i64 n) (secV s)) (mclock esn cn (.int .i64 n))) := by
    subst hW1; exact hobj_eq (by simp; omega)
  have kW : W1.heap[kb]? = some (.map esk ck) := by
    subst hW1; rw [hobj_ne hx.ne.symm]; exact (hal_old (lt_of_heap hx.kept)).trans hx.kept
  have bW : W1.heap[w.heap.size]? = some (.cells cs.toArray 31 (0, 0)) := by
    subst hW1; rw [hobj_ne hbn]; exact hal_new
  have rW : W1.ownsRow 0 94 65 wv D.wait.length (D.wait.flatMap wrC) := by
    subst hW1
    exact ownsRow_chg (F := fun k => k = nb) hx.row (((Chg.refl (fun k => k = nb) w).alloc _).drew.setObj (.inl rfl) _) (fun g hg => (hx.row_ne hg).2.1)
  have d3 := cell_of_row W1 r 3 _ _ _ sW
  have d4 := cell_of_row W1 r 4 _ _ _ sW
  have d5 := cell_of_row W1 r 5 _ _ _ sW
  have df := frozen_of_row W1 r 3 _ _ sW
  have drg := range_block bW
  have dr := lt_of_heap sW
  clear hW1 hx hmu hrg hc1
  have HC := Lib.hid cW; have HSW := Lib.hid sW; have HNW := Lib.hid nW; have HKW := Lib.hid kW; have HBW := Lib.hid bW; have HRW := Lib.hid rW; have HZW := Lib.hid zW
  clear cW sW nW kW bW rW zW c0 c1 c2 c3 c4 c5 hfr
  go_wp2_with fail

  have hcl := HCL.out
  have hcl2 : cs.length + 1 = 65 := by omega
  refine wp_region_lex (fun w' => w'.cell? ⟨r, 3, none⟩ = some wv ∧ w'.rangeAt w.heap.size 0 cs) 12 [8, 9, 12] [0, 1, 2, 3, 4, 5, 6, 7, 8, 9, 10, 11, 12] (by kernel_rfl) (by kernel_rfl) ⟨d3, drg⟩ ?_
  iterate 6
    refine' lex_free (v := _) rfl rfl rfl ?_ (fun _ _ _ h => h) ?_
    rotate_left
    · rintro W ⟨hW1, hW2⟩
      go_simp
      with_reducible rfl
    simp only [Act.put, List.setIfInBounds_toArray, List.set_cons_zero, List.set_cons_succ]
  refine lex_free (v := .agg cs.toArray) rfl rfl rfl (fun W hW => exec_load_mid rfl rfl hW.2 HU.out rfl HI.out) (fun _ _ _ h => h) ?_
  simp only [Act.put, List.setIfInBounds_toArray, List.set_cons_zero, List.set_cons_succ]
  iterate 1
    refine' lex_free (v := _) rfl rfl rfl ?_ (fun _ _ _ h => h) ?_
    rotate_left
    · rintro W ⟨hW1, hW2⟩
      go_simp
      with_reducible rfl
    simp only [Act.put, List.setIfInBounds_toArray, List.set_cons_zero, List.set_cons_succ]
  refine lex_op rfl rfl rfl (fun K hK => ?_)
  go_simp
  refine hK _ _ (fun _ => ⟨(World.cell?_alloc_lt _ _ _ dr).trans d3, World.rangeAt_alloc drg _⟩) ?_
  clear hK K
  obtain ⟨W2, hW2⟩ : ∃ W2, W2 = (W1.alloc (Obj.cells (Value.int IntKind.i64 n :: cs).toArray 94)).drew := ⟨_, rfl⟩
  rw [← hW2]
  have z2 : W2.heap.size = W1.heap.size + 1 := by subst hW2; simp
  have a2 : Chg F w W2 := by subst hW2; exact (HC.out.alloc _).drew
  have s2 := (show W2.heap[r]? = W1.heap[r]? from by subst hW2; exact hal_old dr).trans HSW.out
  have n2 := (show W2.heap[nb]? = W1.heap[nb]? from by subst hW2; exact hal_old (lt_of_heap HNW.out)).trans HNW.out
  have k2 := (show W2.heap[kb]? = W1.heap[kb]? from by subst hW2; exact hal_old (lt_of_heap HKW.out)).trans HKW.out
  have b2 : W2.heap[W1.heap.size]? = some (.cells (Value.int IntKind.i64 n :: cs).toArray 94 (0, 0)) := by subst hW2; exact hal_new
  have r2 : W2.ownsRow 0 94 65 wv D.wait.length (D.wait.flatMap wrC) := by subst hW2; exact HRW.out.alloc _
  have e3 := cell_of_row W2 r 3 _ _ _ s2
  have erg := range_of_heap (w := W1) (w' := W2) (b := w.heap.size) (by subst hW2; exact hal_old (by have := HZW.out; omega)) drg
  clear hW2 d3 d4 d5 df drg
  obtain ⟨i0, z0, hi0, hz0, hs0, hb0, hzs0⟩ := wr_info
  refine lex_op rfl rfl rfl (fun K hK => ?_)
  refine wp_app _ _ _ 89 rfl 94 i0 z0 65 72 Try.underlying89 hi0 hz0 hs0 hb0 hzs0 wv D.wait.length (D.wait.flatMap wrC) rfl r2 _ 1 1 (wrC (n, s)) rfl (by have := HS.out; simp; omega) (fun h => by cases h) ?_ (wrC_one _) (by unfold maxLen; omega) (by omega) ?_
  · intro ad had
    obtain rfl := Option.some.inj had
    have := World.news_of_block b2
    rw [show (Value.int IntKind.i64 n :: cs).toArray.toList = wrC (n, s) from by rw [← HCS.out]; rfl] at this
    exact this
  intro v3 W3 r3 g3 hat _ hlt
  obtain ⟨g, cap, rfl, hg⟩ := hlt (by omega)
  have hrow : ∀ x, wv.ownBlock = some x → x ≠ r ∧ x ≠ nb ∧ x ≠ kb ∧ x ≠ w.heap.size ∧ F x := fun x hx => by
    have h1 := HH.out.row_ne hx
    exact ⟨h1.1, h1.2.1, h1.2.2, by have := ownsRow_lt HH.out.row hx; omega, HH.out.fw x hx⟩
  have keep : ∀ k, k < W2.heap.size → (∀ x, wv.ownBlock = some x → x ≠ k) → W3.heap[k]? = W2.heap[k]? := fun k hk hn => g3.block k hk (fun e => hn k e.symm rfl)
  have s3 := (keep r (lt_of_heap s2) (fun x hx => (hrow x hx).1)).trans s2
  have n3 := (keep nb (lt_of_heap n2) (fun x hx => (hrow x hx).2.1)).trans n2
  have k3 := (keep kb (lt_of_heap k2) (fun x hx => (hrow x hx).2.2.1)).trans k2
  have a3 : Chg F w W3 := a2.grown g3 (fun x hx => .inl (hrow x hx).2.2.2.2)
  have d3 := cell_of_row W3 r 3 _ _ _ s3
  have df := frozen_of_row W3 r 3 _ _ s3
  have org := range_of_heap (w := W2) (w' := W3) (b := w.heap.size) (keep _ (by have := HZW.out; omega) (fun x hx => (hrow x hx).2.2.2.1)) erg
  refine hK _ _ (fun _ => ⟨d3, org⟩) ?_
  clear hK K
  simp only [Act.put, List.setIfInBounds_toArray, List.set_cons_zero, List.set_cons_succ]
  have H1 := Lib.hid s3; have H2 := Lib.hid n3; have H3 := Lib.hid k3; have H4 := Lib.hid a3; have H5 := Lib.hid r3; have H6 := Lib.hid hat; have H7 := Lib.hid hrow; have H8 := Lib.hid hg; have H9 := Lib.hid z2; have H10 := Lib.hid r2
  clear s3 n3 k3 a3 r3 hat hrow hg keep hlt s2 n2 k2 a2 b2 r2 e3 erg z2 g3
  iterate 2
    refine' lex_free (v := _) rfl rfl rfl ?_ (fun _ _ _ h => h) ?_
    rotate_left
    · rintro W ⟨hW1, hW2⟩
      go_simp
      with_reducible rfl
    simp only [Act.put, List.setIfInBounds_toArray, List.set_cons_zero, List.set_cons_succ]
  refine lex_op rfl rfl rfl (fun K hK => ?_)
  go_simp
  refine hK _ _ (fun h => absurd rfl h) ?_
  clear hK K
  refine lex_nil ?_
  clear d3 df org
  obtain ⟨W4, hW4⟩ : ∃ W4, W4 = W3.setCell ⟨r, 3, none⟩ (Value.slice (some ⟨g, 0, none⟩) (D.wait.length + 1) cap) := ⟨_, rfl⟩
  rw [← hW4]
  have a4 : Chg F w W4 := by subst hW4; exact H4.out.setCell (.inl HH.out.fr) _
  have z4 : W4.heap.size = W3.heap.size := by subst hW4; simp
  have dk : DiskAt W4 r (Ext F w W4) (D.put n s) := by
    have hx := HH.out
    refine ⟨nb, kb, .slice (some ⟨g, 0, none⟩) (D.wait.length + 1) cap, _, esk, mclock esn cn (.int .i64 n), ck, ?_, ?_, hx.nowIs.put cn n s, ?_, hx.keptIs, hx.ne, ?_, .inl hx.fr, .inl hx.fn, .inl hx.fk, ?_, Dsk.put_ok hx.ok n HS.out⟩
    · subst hW4; rw [hset_eq H1.out]; rfl
    · subst hW4; rw [hset_ne hnr.symm]; exact H2.out
    · subst hW4; rw [hset_ne hx.ner.2]; exact H3.out
    · subst hW4
      have hr5 := H5.out
      have hl5 : (D.put n s).wait.length = D.wait.length + 1 := by simp [Dsk.put]
      have hl6 : (D.put n s).wait.flatMap wrC = D.wait.flatMap wrC ++ wrC (n, s) := by simp [Dsk.put]
      rw [hl5, hl6]
      refine ownsRow_chg (F := fun k => k = r) hr5 ((Chg.refl (fun k => k = r) W3).setCell (p := ⟨r, 3, none⟩) (.inl rfl) _) ?_
      intro x hx' e
      subst e
      obtain ⟨cur, hc⟩ := ownsRow_heap hr5 hx'
      rw [H1.out] at hc
      simp at hc
    · intro x hx'
      have : g = x := by simpa [Value.ownBlock] using hx'
      subst this
      rcases H6.out with h6 | h6
      · exact .inl (H7.out g (by rw [← h6]; rfl)).2.2.2.2
      · have : g = W2.heap.size := by simpa [Value.ownBlock] using h6
        refine .inr ⟨?_, ?_⟩
        · have := H9.out; have := HZW.out; omega
        · rw [z4]; exact H8.out
  have HA4 := Lib.hid a4; have HDK := Lib.hid dk; have HZ4 := Lib.hid z4
  clear a4 dk hW4 z4
  go_wp2_with fail
  refine (change_any r _ _ _ HDK.out).mono ?_
  rintro e w5 ⟨rfl, d5, c5⟩
  have H11 := Lib.hid d5; have H12 := Lib.hid c5
  clear d5 c5
  go_wp2
  go_ret
  have a5 : Chg F w w5 := HA4.out.trans H12.out (fun x hx => hx.elim .inl (fun h => .inr h.1))
  refine ⟨rfl, H11.out.mono (fun k hk hl => ?_), a5⟩
  rcases hk with h | h
  · exact .inl h
  · exact .inr ⟨h.1, hl⟩
end Go.Proofs.Ytihpobpkhhkejaa
