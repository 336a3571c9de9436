/-
  What the document's disk's Write does. Condition: fewer than 3000000000000 writes wait.
-/
import Derived.Test.YtihpobpkhhkejaaRefR
set_option autoImplicit false
namespace Go.Proofs.Ytihpobpkhhkejaa
open Go Go.RowKit

theorem built_rwr (parts : List (Nat × Value)) : Try.prog.built 99 parts = Instr.fill (#[(0, 1), (1, 64)][·]?) (Array.replicate 65 (.int .u8 0) |>.setIfInBounds 0 (.int .i64 0)) parts := by
  kernel_rfl
theorem exec_build_rwr (e : Operand → Value) (dst : Option Tmp) (x y : Operand) (ty : TypeId) (pos : String) (after : Array Edge) (g : Option (Nat × Bool)) (w : World) (h1 : (e x).cells.size = 1) (h2 : (e y).cells.size = 64) :
    (execOp e ⟨dst, .build 99 #[(0, x), (1, y)], ty, pos, after, g⟩).run Try.prog w = .ok (.value (.agg ((e x).cells ++ (e y).cells))) w := by
  have hb : Try.prog.built 99 [(0, e x), (1, e y)] = some ((e x).cells ++ (e y).cells) := by
    rw [built_rwr, fill_cons (off := 0) (size := 1) rfl h1 (by decide), fill_cons (off := 1) (size := 64) rfl h2 (by simp [splice, h1])]
    unfold Instr.fill
    congr 1
    apply Array.ext (by simp [splice, h1, h2])
    intro i hi1 hi2
    simp only [Array.size_append, h1, h2] at hi2
    simp [splice, h1, h2, Array.getElem_append]
    split
    · rfl
    · rw [dif_pos (by omega)]
  have := run_build (P := Try.prog) w 99 #[(0, e x), (1, e y)] _ hb
  simp [execOp, this]
theorem info_rwr : (Try.prog.info? 99).map (fun i => (i.size, i.bytes, (i.zero.getD undef).cells.size, i.zero.isSome)) = some (65, 72, 65, true) := by kernel_rfl
theorem rwr_info : ∃ i z, Try.prog.info? 99 = some i ∧ i.zero = some z ∧ i.size = 65 ∧ i.bytes = 72 ∧ z.cells.size = 65 := by
  obtain ⟨i, hi, hzz⟩ := Option.map_eq_some_iff.1 info_rwr
  simp only [Prod.mk.injEq] at hzz
  obtain ⟨z, hz⟩ := Option.isSome_iff_exists.1 hzz.2.2.2
  refine ⟨i, z, hi, hz, hzz.1, hzz.2.1, ?_⟩
  have := hzz.2.2.1
  rw [hz] at this
  exact this
theorem exec_slice_rwr (e : Operand → Value) (dst : Option Tmp) (x : Operand) (ty : TypeId) (pos : String) (after : Array Edge) (g : Option (Nat × Bool)) (w : World) (h1 : (e x).cells.size = 65) :
    (execOp e ⟨dst, .buildSlice 60 1 #[(0, x)], ty, pos, after, g⟩).run Try.prog w = .ok (.value (.slice (some ⟨w.heap.size, 0, none⟩) 1 1)) (w.alloc (.cells (e x).cells 99)) := by
  obtain ⟨i, z, hi, hz, hs, _, hzs⟩ := rwr_info
  have := run_buildSlice1 (P := Try.prog) (v := e x) w Try.underlying60 hi hz (by rw [h1, hs]) (by omega) (by omega) (by omega)
  simp [execOp, this]
theorem put_inv {D : Dsk} (h : D.inv) {n : Int} (h0 : 0 ≤ n) (h1 : n < D.size) (s : Sec) : (D.put n s).inv := by
  refine ⟨?_, fun x hx => ?_⟩
  · show keepAll D.kept (D.wait ++ [(n, s)]) = upd D.now n s
    rw [keepAll_append, h.1]
  · simp only [Dsk.put, List.mem_append, List.mem_singleton] at hx
    rcases hx with hx | rfl
    · exact h.2 x hx
    · exact ⟨h0, h1⟩
attribute [local go_sem ↓] exec_build_rwr exec_slice_rwr
set_option maxRecDepth 100000 in
theorem rwrite_nil (n : Int) (s : Sec) (w : World) :
    Calls Try.prog 44 #[.pointer none, .int .i64 n, .agg (secC s).toArray] w fun e w' => e = .returned (.int .i64 2) ∧ Chg (fun _ => False) w w' := by
  have HZ := Lib.hid info_sec0
  have SL := Lib.hid ((secC_len sec0).trans sec0_len); have SI := Lib.hid (info_secC sec0_len); have SO := Lib.hid (secC_one sec0)
  generalize secC s = cs at *
  go_enter Try.func44, Try.ntmps44
  go_wp2_with fail
  refine (rread_nil n _).mono ?_
  rintro e w1 ⟨rfl, x1⟩
  have X1 := Lib.hid (((Chg.refl (fun _ => False) w).alloc (.cells cs.toArray 31)).trans x1 (fun _ h => h.elim))
  clear x1
  generalize secC sec0 = ct at *
  go_wp2_with (first | (refine wpList_alloc_big rfl 31 64 rfl HZ.out (fun zs hzs => ?_); have HZS := Lib.hid hzs; clear hzs) | (refine wpList_store_new rfl 31 _ _ rfl ct _ rfl rfl rfl (SL.out.trans HZS.out.symm) SI.out SO.out ?_))
  go_ret
  exact ⟨rfl, X1.out.alloc _⟩
set_option maxRecDepth 100000 in
theorem rwrite_err (r : Nat) (F : Nat → Prop) (D : Dsk) (n : Int) (s : Sec) (w : World) (h : RefAt w r F D) (he : errOf D.size D.down n ≠ 0) :
    Calls Try.prog 44 #[.pointer (some ⟨r, 0, none⟩), .int .i64 n, .agg (secC s).toArray] w fun e w' => e = .returned (.int .i64 (errOf D.size D.down n)) ∧ Chg (fun _ => False) w w' := by
  have HZ := Lib.hid info_sec0
  have hr : D.readR n = sec0 := by unfold Dsk.readR; rw [if_neg he]
  have HR := Lib.hid hr
  have SL := Lib.hid ((secC_len sec0).trans sec0_len); have SI := Lib.hid (info_secC sec0_len); have SO := Lib.hid (secC_one sec0)
  have hq : (errOf D.size D.down n != 0) = true := by simpa using he
  generalize hE : errOf D.size D.down n = E at *
  have HE := Lib.hid hE
  have H := Lib.hid h
  generalize secC s = cs at *
  clear hr he hE h
  go_enter Try.func44, Try.ntmps44
  go_wp2_with fail
  refine (rread_any r F D n _ (H.out.chg ((Chg.refl (fun _ => False) w).alloc (.cells cs.toArray 31)) (fun _ _ h => h))).mono ?_
  rintro e w1 ⟨rfl, x1⟩
  rw [HR.out, HE.out]
  have X1 := Lib.hid (((Chg.refl (fun _ => False) w).alloc (.cells cs.toArray 31)).trans x1 (fun _ h => h.elim))
  clear x1
  generalize secC sec0 = ct at *
  go_wp2_with (first | (refine wpList_alloc_big rfl 31 64 rfl HZ.out (fun zs hzs => ?_); have HZS := Lib.hid hzs; clear hzs) | (refine wpList_store_new rfl 31 _ _ rfl ct _ rfl rfl rfl (SL.out.trans HZS.out.symm) SI.out SO.out ?_))
  go_ret
  exact ⟨rfl, X1.out.alloc _⟩
set_option maxRecDepth 100000 in
set_option maxHeartbeats 1000000 in
theorem rwrite_ok (r : Nat) (F : Nat → Prop) (D : Dsk) (n : Int) (s : Sec) (w : World) (h : RefAt w r F D) (hs : s.length = 64) (he : errOf D.size D.down n = 0) (hlen : D.wait.length < 3000000000000) :
    Calls Try.prog 44 #[.pointer (some ⟨r, 0, none⟩), .int .i64 n, .agg (secC s).toArray] w fun e w' => e = .returned (.int .i64 0) ∧ RefAt w' r (Ext F w w') (D.write n s) ∧ Chg F w w' := by
  have HZ := Lib.hid info_sec0
  obtain ⟨hn0, hn1, hd⟩ := errOf_zero he
  have hrl : (D.readR n).length = 64 := by unfold Dsk.readR; rw [if_pos he]; exact h.ok.2.2.2.2.1 n
  have SL := Lib.hid ((secC_len (D.readR n)).trans hrl); have SI := Lib.hid (info_secC hrl); have SO := Lib.hid (secC_one (D.readR n))
  have hcl : (secC s).length = 64 := by simp [hs]
  have H := Lib.hid h
  have hi : (Try.prog.info? 31).map (·.size) = some (secC s).length := info_secC hs
  generalize hcs : secC s = cs at *
  have HE := Lib.hid he; have HCS := Lib.hid hcs; have HCL := Lib.hid hcl; have HS := Lib.hid hs; have HI := Lib.hid hi; have HD := Lib.hid hd
  clear he h hrl hcs hcl hi hs hd
  go_enter Try.func44, Try.ntmps44
  go_wp2_with fail
  refine (rread_any r F D n _ (H.out.chg ((Chg.refl (fun _ => False) w).alloc (.cells cs.toArray 31)) (fun _ _ h => h))).mono ?_
  rintro e w1 ⟨rfl, x1⟩
  rw [HE.out]
  have X1 := Lib.hid (((Chg.refl (fun _ => False) w).alloc (.cells cs.toArray 31)).trans x1 (fun _ h => h.elim))
  have B1 := Lib.hid (x1.heap (hal_new (w := w) (o := .cells cs.toArray 31)) (fun h => h))
  have z1 := x1.size
  have z0 : (w.alloc (.cells cs.toArray 31)).heap.size = w.heap.size + 1 := by simp
  clear x1
  generalize secC (D.readR n) = ct at *
  go_wp2_with (first | (refine wpList_alloc_big rfl 31 64 rfl HZ.out (fun zs hzs => ?_); have HZS := Lib.hid hzs; clear hzs) | (refine wpList_store_new rfl 31 _ _ rfl ct _ rfl rfl rfl (SL.out.trans HZS.out.symm) SI.out SO.out ?_))
  obtain ⟨kv, wv, hx⟩ := H.out.chg (X1.out.alloc (.cells ct.toArray 31)) (fun _ _ h => h)
  have cW : Chg F w (w1.alloc (.cells ct.toArray 31)) := (X1.out.alloc (.cells ct.toArray 31)).mono (fun _ h => h.elim)
  have bW : (w1.alloc (.cells ct.toArray 31)).heap[w.heap.size]? = some (.cells cs.toArray 31 (0, 0)) := (hal_old (by omega)).trans B1.out
  have zW : w.heap.size + 2 ≤ (w1.alloc (.cells ct.toArray 31)).heap.size := by simp; omega
  generalize (w1.alloc (.cells ct.toArray 31)) = W1 at *
  have d3 := hx.cells.2.2.1
  have drg := range_block bW
  have dr := lt_of_heap hx.self
  have HH := Lib.hid hx; have HC := Lib.hid cW; have HBW := Lib.hid bW; have HZW := Lib.hid zW
  clear hx cW bW zW z1 z0
  have hcl := HCL.out
  have hcl2 : cs.length + 1 = 65 := by omega
  refine wp_region_lex (fun w' => w'.cell? ⟨r, 2, none⟩ = some wv ∧ w'.rangeAt w.heap.size 0 cs) 12 [8, 9, 12] [0, 1, 2, 3, 4, 5, 6, 7, 8, 9, 10, 11, 12] (by kernel_rfl) (by kernel_rfl) ⟨d3, drg⟩ ?_
  iterate 6
    refine' lex_free (v := _) rfl rfl rfl ?_ (fun _ _ _ h => h) ?_
    rotate_left
    · rintro W ⟨hW1, hW2⟩
      go_simp
      with_reducible rfl
    simp only [Act.put, List.setIfInBounds_toArray, List.set_cons_zero, List.set_cons_succ]
  refine lex_free (v := .agg cs.toArray) rfl rfl rfl (fun W hW => exec_load_mid rfl rfl hW.2 Try.underlying31 rfl HI.out) (fun _ _ _ h => h) ?_
  simp only [Act.put, List.setIfInBounds_toArray, List.set_cons_zero, List.set_cons_succ]
  iterate 1
    refine' lex_free (v := _) rfl rfl rfl ?_ (fun _ _ _ h => h) ?_
    rotate_left
    · rintro W ⟨hW1, hW2⟩
      go_simp
      with_reducible rfl
    simp only [Act.put, List.setIfInBounds_toArray, List.set_cons_zero, List.set_cons_succ]
  refine lex_op rfl rfl rfl (fun K hK => ?_)
  go_simp
  refine hK _ _ (fun _ => ⟨(World.cell?_alloc_lt _ _ _ dr).trans d3, World.rangeAt_alloc drg _⟩) ?_
  clear hK K
  obtain ⟨W2, hW2⟩ : ∃ W2, W2 = (W1.alloc (Obj.cells (Value.int IntKind.i64 n :: cs).toArray 99)).drew := ⟨_, rfl⟩
  rw [← hW2]
  have z2 : W2.heap.size = W1.heap.size + 1 := by subst hW2; simp
  have a2 : Chg F w W2 := by subst hW2; exact (HC.out.alloc _).drew
  have x2 : Chg (fun _ => False) W1 W2 := by subst hW2; exact ((Chg.refl _ W1).alloc _).drew
  have h2 := HH.out.chg x2 (fun _ _ h => h)
  have b2 : W2.heap[W1.heap.size]? = some (.cells (Value.int IntKind.i64 n :: cs).toArray 99 (0, 0)) := by subst hW2; exact hal_new
  have e3 := h2.cells.2.2.1
  have erg := range_of_heap (w := W1) (w' := W2) (b := w.heap.size) (x2.keep _ (by have := HZW.out; omega) (fun h => h)) drg
  clear hW2 d3 drg x2
  obtain ⟨i0, z0, hi0, hz0, hs0, hb0, hzs0⟩ := rwr_info
  refine lex_op rfl rfl rfl (fun K hK => ?_)
  refine wp_app _ _ _ 60 rfl 99 i0 z0 65 72 Try.underlying60 hi0 hz0 hs0 hb0 hzs0 wv D.wait.length (D.wait.flatMap wrC) rfl h2.row _ 1 1 (wrC (n, s)) rfl (by have := HS.out; simp; omega) (fun h => by cases h) ?_ (wrC_one _) (by unfold maxLen; omega) (by omega) ?_
  · intro ad had
    obtain rfl := Option.some.inj had
    have := World.news_of_block b2
    rw [show (Value.int IntKind.i64 n :: cs).toArray.toList = wrC (n, s) from by rw [← HCS.out]; rfl] at this
    exact this
  intro v3 W3 r3 g3 hat _ hlt
  obtain ⟨g, cap, rfl, hg⟩ := hlt (by omega)
  have keep : ∀ k, k < W2.heap.size → (∀ x, wv.ownBlock = some x → x ≠ k) → W3.heap[k]? = W2.heap[k]? := fun k hk hn => g3.block k hk (fun e => hn k e.symm rfl)
  have s3 := (keep r (lt_of_heap h2.self) (fun x hx => h2.ner.2.1 x hx)).trans h2.self
  have k3 : W3.ownsRow 0 31 64 kv D.size.toNat (keptC D) := by
    refine ownsRow_chg (F := fun k => wv.ownBlock = some k) h2.kept (Chg.grown (Chg.refl _ W2) g3 (fun x hx => .inl hx)) (fun x hx => ?_)
    exact h2.ner.2.2 x hx
  have a3 : Chg F w W3 := a2.grown g3 (fun x hx => .inl (h2.fw x hx))
  have d3 := cell_of_row W3 r 2 _ _ _ s3
  have df := frozen_of_row W3 r 2 _ _ s3
  have hwn : ∀ x, wv.ownBlock = some x → x ≠ w.heap.size := fun x hx e => by
    obtain ⟨cur, hc⟩ := ownsRow_heap HH.out.row hx
    subst e
    rw [HBW.out] at hc
    simp at hc
  have org := range_of_heap (w := W2) (w' := W3) (b := w.heap.size) (keep _ (by have := HZW.out; omega) hwn) erg
  refine hK _ _ (fun _ => ⟨d3, org⟩) ?_
  clear hK K
  simp only [Act.put, List.setIfInBounds_toArray, List.set_cons_zero, List.set_cons_succ]
  have H1 := Lib.hid s3; have H3 := Lib.hid k3; have H4 := Lib.hid a3; have H5 := Lib.hid r3; have H6 := Lib.hid hat; have H8 := Lib.hid hg; have H9 := Lib.hid z2; have H10 := Lib.hid h2
  clear s3 k3 a3 r3 hat hwn hg keep hlt h2 a2 b2 e3 erg z2 g3
  iterate 2
    refine' lex_free (v := _) rfl rfl rfl ?_ (fun _ _ _ h => h) ?_
    rotate_left
    · rintro W ⟨hW1, hW2⟩
      go_simp
      with_reducible rfl
    simp only [Act.put, List.setIfInBounds_toArray, List.set_cons_zero, List.set_cons_succ]
  refine lex_op rfl rfl rfl (fun K hK => ?_)
  go_simp
  refine hK _ _ (fun h => absurd rfl h) ?_
  clear hK K
  refine lex_nil ?_
  clear d3 df org
  obtain ⟨W4, hW4⟩ : ∃ W4, W4 = W3.setCell ⟨r, 2, none⟩ (Value.slice (some ⟨g, 0, none⟩) (D.wait.length + 1) cap) := ⟨_, rfl⟩
  rw [← hW4]
  have a4 : Chg F w W4 := by subst hW4; exact H4.out.setCell (.inl HH.out.fr) _
  have z4 : W4.heap.size = W3.heap.size := by subst hW4; simp
  have dk : RefAt W4 r (Ext F w W4) (D.put n s) := by
    have hx := HH.out
    have hr5 := H5.out
    have hl5 : (D.put n s).wait.length = D.wait.length + 1 := by simp [Dsk.put]
    have hl6 : (D.put n s).wait.flatMap wrC = D.wait.flatMap wrC ++ wrC (n, s) := by simp [Dsk.put]
    refine ⟨kv, .slice (some ⟨g, 0, none⟩) (D.wait.length + 1) cap, ?_, ?_, ?_, .inl hx.fr, fun x hx' => .inl (hx.fk x hx'), ?_, Dsk.put_ok hx.ok n HS.out, put_inv hx.inv hn0 hn1 s⟩
    · subst hW4; rw [hset_eq H1.out]; rfl
    · subst hW4
      exact ownsRow_set H3.out hx.ner.1
    · subst hW4
      rw [hl5, hl6]
      refine ownsRow_set hr5 (fun x hx' e => ?_)
      subst e
      obtain ⟨cur, hc⟩ := ownsRow_heap hr5 hx'
      rw [H1.out] at hc
      simp at hc
    · intro x hx'
      have : g = x := by simpa [Value.ownBlock] using hx'
      subst this
      rcases H6.out with h6 | h6
      · exact .inl (hx.fw g (by rw [← h6]; rfl))
      · have : g = W2.heap.size := by simpa [Value.ownBlock] using h6
        refine .inr ⟨?_, ?_⟩
        · have := H9.out; have := HZW.out; omega
        · rw [z4]; exact H8.out
  have HA4 := Lib.hid a4; have HDK := Lib.hid dk
  clear a4 dk hW4 z4
  go_wp2_with fail
  refine (rchange_any r _ _ _ HDK.out HD.out).mono ?_
  rintro e w5 ⟨rfl, d5, c5⟩
  have H11 := Lib.hid d5; have H12 := Lib.hid c5
  clear d5 c5
  go_wp2
  go_ret
  have a5 : Chg F w w5 := HA4.out.trans H12.out (fun x hx => hx.elim .inl (fun h => .inr h.1))
  refine ⟨rfl, H11.out.mono (fun k hk hl => ?_), a5⟩
  rcases hk with h | h
  · exact .inl h
  · exact .inr ⟨h.1, hl⟩
theorem rwrite_any (r : Nat) (F : Nat → Prop) (D : Dsk) (n : Int) (s : Sec) (w : World) (h : RefAt w r F D) (hs : s.length = 64) (hlen : D.wait.length < 3000000000000) :
    Calls Try.prog 44 #[.pointer (some ⟨r, 0, none⟩), .int .i64 n, .agg (secC s).toArray] w fun e w' => e = .returned (.int .i64 (errOf D.size D.down n)) ∧ RefAt w' r (Ext F w w') (D.writeR n s) ∧ Chg F w w' := by
  by_cases he : errOf D.size D.down n = 0
  · refine (rwrite_ok r F D n s w h hs he hlen).mono ?_
    rintro e w' ⟨rfl, d, c⟩
    exact ⟨by rw [he], by rw [Dsk.writeR, if_pos he]; exact d, c⟩
  · refine (rwrite_err r F D n s w h he).mono ?_
    rintro e w' ⟨rfl, c⟩
    exact ⟨rfl, by rw [Dsk.writeR, if_neg he]; exact (h.chg c (fun _ _ h => h)).mono (fun _ h _ => .inl h), c.mono (fun _ h => h.elim)⟩
end Go.Proofs.Ytihpobpkhhkejaa
