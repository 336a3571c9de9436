/-
  The document's log in memory, and the write of its head. Conditions: a log over a disk stands at the address.
-/
import Derived.Test.YtihpobpkhhkejaaWRefA
import Derived.Test.YtihpobpkhhkejaaRefW
set_option autoImplicit false
namespace Go.Proofs.Ytihpobpkhhkejaa
open Go Go.RowKit

structure RLogIn (w : World) (m r : Nat) (F : Nat → Prop) (L : Lg) (tv wv : Value) : Prop where
  self : w.heap[m]? = some (.cells #[.pointer (some ⟨r, 0, none⟩), .int .u64 L.cnt, tv, wv, .int .i64 L.wait] 86 (0, 0))
  there : Byts w 0 tv (L.st.take L.len.toNat)
  wait : Byts w 0 wv (L.st.drop L.len.toNat)
  apart : ApartB tv wv
  fm : F m
  ft : ∀ g, tv.ownBlock = some g → F g
  fw : ∀ g, wv.ownBlock = some g → F g
  ok : L.ok
def RLogAt (w : World) (m r : Nat) (F : Nat → Prop) (L : Lg) : Prop := ∃ tv wv, RLogIn w m r F L tv wv
section
variable {w w' : World} {m r : Nat} {F G : Nat → Prop} {L : Lg} {tv wv : Value}
theorem RLogIn.ne (h : RLogIn w m r F L tv wv) : (∀ g, tv.ownBlock = some g → g ≠ m) ∧ (∀ g, wv.ownBlock = some g → g ≠ m) := by
  refine ⟨fun g hg e => ?_, fun g hg e => ?_⟩
  · subst e
    obtain ⟨cur, hc⟩ := ownsRow_heap h.there.row hg
    have := h.self
    rw [hc] at this
    simp at this
  · subst e
    obtain ⟨cur, hc⟩ := ownsRow_heap h.wait.row hg
    have := h.self
    rw [hc] at this
    simp at this
theorem RLogIn.chg (h : RLogIn w m r F L tv wv) (x : Chg G w w') (hd : ∀ k, F k → ¬ G k) : RLogIn w' m r F L tv wv :=
  ⟨x.heap h.self (hd _ h.fm), h.there.chg x (fun g hg => hd g (h.ft g hg)), h.wait.chg x (fun g hg => hd g (h.fw g hg)), h.apart, h.fm, h.ft, h.fw, h.ok⟩
theorem RLogAt.chg (h : RLogAt w m r F L) (x : Chg G w w') (hd : ∀ k, F k → ¬ G k) : RLogAt w' m r F L := by
  obtain ⟨tv, wv, h⟩ := h
  exact ⟨tv, wv, h.chg x hd⟩
theorem RLogIn.mono (h : RLogIn w m r F L tv wv) (hG : ∀ k, F k → k < w.heap.size → G k) : RLogIn w m r G L tv wv :=
  ⟨h.self, h.there, h.wait, h.apart, hG _ h.fm (lt_of_heap h.self), fun g hg => hG _ (h.ft g hg) (h.there.lt hg), fun g hg => hG _ (h.fw g hg) (h.wait.lt hg), h.ok⟩
theorem RLogAt.mono (h : RLogAt w m r F L) (hG : ∀ k, F k → k < w.heap.size → G k) : RLogAt w m r G L := by
  obtain ⟨tv, wv, h⟩ := h
  exact ⟨tv, wv, h.mono hG⟩
theorem RLogIn.cells (h : RLogIn w m r F L tv wv) :
    w.cell? ⟨m, 0, none⟩ = some (.pointer (some ⟨r, 0, none⟩)) ∧ w.cell? ⟨m, 1, none⟩ = some (.int .u64 L.cnt) ∧ w.cell? ⟨m, 2, none⟩ = some tv ∧ w.cell? ⟨m, 3, none⟩ = some wv ∧ w.cell? ⟨m, 4, none⟩ = some (.int .i64 L.wait) ∧ m < w.heap.size :=
  ⟨cell_of_row w m 0 _ _ _ h.self, cell_of_row w m 1 _ _ _ h.self, cell_of_row w m 2 _ _ _ h.self, cell_of_row w m 3 _ _ _ h.self, cell_of_row w m 4 _ _ _ h.self, lt_of_heap h.self⟩
theorem RLogIn.free (h : RLogIn w m r F L tv wv) (o : Nat) : w.frozen? ⟨m, o, none⟩ = false := frozen_of_row w m o _ _ h.self
end
theorem wpList_byts {ops : Array Oper} {rest : List Oper} {o : Oper} {a : Act} {Q : Exit → Act → World → Prop} {w : World} (hgd : o.guard = none) (s x : Operand)
    (ho : o.op = .call { callee := .builtin .append, args := #[s, x], argTypes := #[22, 22] }) (lo : Nat) (v : Value) (xs : List Int) (hs : a.eval s = v) (h : Byts w lo v xs) (ao : Option Addr) (n c : Nat) (ys : List Int) (hn : n = ys.length) (hx : a.eval x = .slice ao n c)
    (hnone : ao = none → ys.length = 0) (hb : ∀ ad, ao = some ad → ∀ j, (hj : j < ys.length) → w.cell? (ad.add j) = some (.int .u8 ys[j])) (hlen : xs.length + ys.length < 20000000000000) (hlo : lo ≤ w.heap.size)
    (k : ∀ v' w', Byts w' lo v' (xs ++ ys) → Chg (fun k => v.ownBlock = some k) w w' → (∀ g, v'.ownBlock = some g → v.ownBlock = some g ∨ g = w.heap.size) → wpList Try.prog ops Q rest (a.put o.dst v') w') : wpList Try.prog ops Q (o :: rest) a w :=
  wpList_plain hgd fun _ hK => wp_byts s x ho lo v xs hs h ao c ys (by rw [hx, hn]) hnone hb hlen hlo fun v' w' h1 h2 h3 => hK _ _ (k v' w' h1 h2 h3)
theorem leN_take (n : Int) : (leN n 8).take 4 = leN n 4 := rfl
theorem pad_nth (c : List Int) (i : Nat) (h : c.length ≤ i) (hi : i < 64) : (secC (padTo c))[i]? = some (.int .u8 0) := by
  unfold secC padTo
  rw [List.map_append, List.map_replicate, List.getElem?_append_right (by simpa using h), List.length_map, List.getElem?_replicate, if_pos (by omega)]
set_option maxRecDepth 100000 in
set_option maxHeartbeats 1000000 in
theorem rseal_any (m r : Nat) (A F : Nat → Prop) (D : Dsk) (L : Lg) (w : World) (n : Nat) (hd : RefAt w r A D) (hl : RLogAt w m r F L) (hap : ∀ k, A k → ¬ F k) (hn : n ≤ 4194304) (hsz : 3 ≤ D.size) (hlen : D.wait.length < 2900000000000) :
    Calls Try.prog 59 #[.pointer (some ⟨m, 0, none⟩), .int .i64 n] w fun e w' => e = .returned (.int .i64 (sealR D L n).1) ∧ RefAt w' r (Ext A w w') (sealR D L n).2.1 ∧ RLogAt w' m r F L ∧ Chg A w w' := by
  obtain ⟨tv, wv, hl⟩ := hl
  obtain ⟨to_, tc, rfl, _⟩ := hl.there.form
  obtain ⟨wo, wc, rfl, _⟩ := hl.wait.form
  obtain ⟨c0, c1, c2, c3, c4, c5⟩ := hl.cells
  have hup := up64_wrap L.cnt
  have hul := up64_lt L.cnt
  have hcl := And.intro hl.ok.c0 hl.ok.c1
  have HL := Lib.hid hl
  have hd2 := hd.mono (G := fun k => A k ∧ k < w.heap.size) (fun k hk hl => ⟨hk, hl⟩)
  have HD := Lib.hid hd2; have HUP := Lib.hid hup
  have hpar : (L.cnt % 2 = 0 ∧ up64 L.cnt % 2 = 1) ∨ (L.cnt % 2 = 1 ∧ up64 L.cnt % 2 = 0) := by unfold up64; omega
  have HPAR := Lib.hid hpar
  clear hl hd hd2 hpar
  generalize hU : up64 L.cnt = U at *
  have HUE := Lib.hid hU
  clear hU
  go_enter Try.func59, Try.ntmps59
  go_wp2_with (refine wpList_alloc_sec rfl rfl ?_)
  obtain ⟨W1, hW1⟩ : ∃ W1, W1 = w.alloc (.cells (secC sec0).toArray 31) := ⟨_, rfl⟩
  rw [← hW1]
  have g1 : W1.heap[w.heap.size]? = some (.cells (secC sec0).toArray 31 (0, 0)) := by rw [hW1]; exact hal_new
  have x1 : Chg (fun _ => False) w W1 := by rw [hW1]; exact (Chg.refl _ _).alloc _
  have z1 : W1.heap.size = w.heap.size + 1 := by rw [hW1]; simp
  have G1 := Lib.hid g1; have X1 := Lib.hid x1
  clear hW1 g1 x1
  refine (eight_any U W1 hul.1 hul.2).mono ?_
  rintro e w2 ⟨v2, rfl, b2, x2⟩
  have g2 := x2.heap G1.out (fun h => h)
  have z2 : W1.heap.size ≤ w2.heap.size := x2.size
  have G2 := Lib.hid g2; have X2 := Lib.hid (X1.out.trans x2 (fun _ h => .inl h)); have B2 := Lib.hid b2
  clear g2 x2 b2
  have hn2 : IntKind.u64.wrap (n : Int) = n := wrapU _ (by omega) (by omega)
  go_wp2_with fail
  refine (eight_any n w2 (by omega) (by omega)).mono ?_
  rintro e w3 ⟨v3, rfl, b3, x3⟩
  have g3 := x3.heap G2.out (fun h => h)
  have z3 : w2.heap.size ≤ w3.heap.size := x3.size
  have b23 := B2.out.quiet x3
  obtain ⟨o3, cc3, he3, _⟩ := b3.form
  rw [leN_len] at he3
  subst he3
  have h4c := b3.capLe.1
  have b34 := b3.take 4 (by simp)
  rw [leN_take] at b34
  obtain ⟨o2, cc2, he2, _⟩ := b23.form
  rw [leN_len] at he2
  subst he2
  have G3 := Lib.hid g3; have X3 := Lib.hid (X2.out.trans x3 (fun _ h => .inl h)); have B23 := Lib.hid b23; have B34 := Lib.hid b34
  have lo2 := B2.out.lo
  have LO2 := Lib.hid lo2
  clear g3 x3 b3 b23 b34 lo2 B2
  have hle4 : 4 ≤ cc3 := by omega
  go_wp2_with (at_builtin; refine wpList_byts rfl _ _ rfl W1.heap.size _ (leN U 8) rfl B23.out o3 4 cc3 (leN n 4) rfl rfl B34.out.get.2.1 B34.out.get.2.2 (by simp) (by omega) (fun v4 w4 y4 x4 n4 => ?_))
  have g4 := x4.heap G3.out (fun h => by have := LO2.out _ h; omega)
  have x04 := X3.out.trans x4 (fun g h => .inr (by have := LO2.out g h; omega))
  have z4 := x4.size
  obtain ⟨o4, cc4, he4, _⟩ := y4.form
  rw [show (leN U 8 ++ leN (n : Int) 4).length = 12 by simp] at he4
  subst he4
  have lo4 : ∀ g, (Value.slice o4 12 cc4).ownBlock = some g → w.heap.size < g := fun g hg => by have := y4.lo g hg; omega
  have hbl : (leN U 8 ++ leN (n : Int) 4).length = 12 := by simp
  obtain ⟨hb, hhb⟩ : ∃ hb, hb = leN U 8 ++ leN (n : Int) 4 := ⟨_, rfl⟩
  rw [← hhb] at y4 hbl
  have HHB := Lib.hid hhb
  have G4 := Lib.hid g4; have X4 := Lib.hid x04; have Y4 := Lib.hid y4; have LO4 := Lib.hid lo4
  clear g4 x04 x4 y4 n4 lo4 hhb
  go_wp2
  go_loopw [7] (fun i wr => ∃ k : Nat, k ≤ 12 ∧ i = .int .i64 k ∧ wr.heap[w.heap.size]? = some (.cells (secC (padTo (hb.take k))).toArray 31 (0, 0)) ∧ Chg (fun x => x = w.heap.size) w4 wr) (fun i _ => 12 - (intOf i).toNat)
  case atStart => exact ⟨0, Nat.zero_le _, rfl, G4.out, Chg.refl _ _⟩
  case round =>
    obtain ⟨k, hk, rfl, hg, hx⟩ := hrel
    have GG := Lib.hid hg; have XX := Lib.hid hx
    clear hg hx
    by_cases hkl : k < 12
    · have hyb := Y4.out.chg XX.out (fun g hg h => by have := LO4.out g hg; omega)
      obtain ⟨ao, cap, he, hfm⟩ := hyb.form
      obtain ⟨gb, rfl, _, hcells⟩ := hfm (by omega)
      rw [hbl] at he
      simp only [Value.slice.injEq] at he
      obtain ⟨rfl, _, rfl⟩ := he
      have hcb := hcells k (by omega)
      have htl : (hb.take k).length = k := by rw [List.length_take]; omega
      have hcs : wr.cell? ⟨w.heap.size, k, none⟩ = some (.int .u8 0) := by
        rw [cell_of_row wr _ k _ _ _ GG.out]
        have := pad_nth (hb.take k) k (by omega) (by omega)
        simpa using this
      have hfs : wr.frozen? ⟨w.heap.size, k, none⟩ = false := frozen_of_row wr _ k _ _ GG.out
      have hps := pad_set (hb.take k) hb[k] (by omega)
      rw [htl, ← List.take_succ_eq_append_getElem (by omega)] at hps
      have HPS := Lib.hid hps
      clear hcells hps hyb hfm
      generalize hb[k] = y at *
      go_wp2
      go_roundw
      case rel =>
        refine ⟨k + 1, by omega, by go_num, ?_, XX.out.setCell (p := ⟨w.heap.size, k, none⟩) (.inl rfl) _⟩
        rw [hset_eq GG.out, HPS.out]
      case measure => simp [intOf]; omega
    · obtain rfl : k = 12 := by omega
      have hfull : hb.take 12 = hb := List.take_of_length_le (by omega)
      have g5 : wr.heap[w.heap.size]? = some (.cells (secC (headSec U n)).toArray 31 (0, 0)) := by
        have := GG.out
        rw [hfull, HHB.out] at this
        exact this
      have x05 : Chg (fun _ => False) w wr := X4.out.trans XX.out (fun g h => .inr (by omega))
      have G5 := Lib.hid g5; have X5 := Lib.hid x05
      have l5 := x05.heap HL.out.self (fun h => h)
      have L5 := Lib.hid l5
      have c1 := cell_of_row wr m 1 _ _ _ l5
      clear g5 x05 l5 hfull c0 c2 c3 c4
      have hsl : (secC (headSec U n)).length = 64 := by simp [headSec_len]
      have hi64 : (Try.prog.info? 31).map (·.size) = some (secC (headSec U n)).length := by rw [hsl]; exact info_sec
      have HI := Lib.hid hi64
      clear hi64 hsl
      have hseal : ∀ z : Int, U % 2 = z → (0 ≤ z ∧ z < 3) ∧ ∃ D1, D.write z (headSec U n) = D1 ∧ sealR D L n = (if D.down then (24, D, L) else if D1.down then (24, D1, L) else (0, D1.sync, { cnt := U, len := n, st := L.st.take n, wait := 0 })) := fun z hz => by
        refine ⟨by omega, _, rfl, ?_⟩
        unfold sealR
        rw [HUE.out, hz]
      have HSE := Lib.hid hseal
      clear hseal
      have q3 := range_block G5.out
      have Q3 := Lib.hid q3
      clear q3
      rcases HPAR.out with ⟨hp1, hp2⟩ | ⟨hp1, hp2⟩
      all_goals
        obtain ⟨hz3, D1, hD1, hse⟩ := HSE.out _ hp2
        have HD1 := Lib.hid hD1
        clear hD1
        have HS := Lib.hid hse
        clear hp2 hse
        go_wp2
        have q1 := cell_of_row wr m 0 _ _ _ L5.out
        refine wp_region_lex (fun w' => w'.cell? ⟨m, 0, none⟩ = some (.pointer (some ⟨r, 0, none⟩)) ∧ w'.rangeAt w.heap.size 0 (secC (headSec U n))) 99 [6] [0, 1, 2, 3, 4, 5, 6, 7] (by kernel_rfl) (by kernel_rfl) ⟨q1, Q3.out⟩ ?_
        clear q1 c1
        iterate 5
          refine' lex_free (v := _) rfl rfl rfl ?_ (fun _ _ _ h => h) ?_
          rotate_left
          · rintro W ⟨hW1, _⟩
            go_simp
            with_reducible rfl
          try simp only [Act.put, List.setIfInBounds_toArray, List.set_cons_zero, List.set_cons_succ]
        refine lex_free (v := .agg (secC (headSec U n)).toArray) rfl rfl rfl (fun W hW => exec_load_mid rfl rfl hW.2 Try.underlying31 rfl HI.out) (fun _ _ _ h => h) ?_
        try simp only [Act.put, List.setIfInBounds_toArray, List.set_cons_zero, List.set_cons_succ]
        refine lex_op rfl rfl rfl (fun K hK => ?_)
        go_simp
        refine (rwrite_any r _ D _ (headSec U n) wr.drew (HD.out.chg (X5.out.drew) (fun _ _ h => h)) (headSec_len _ _) (by omega)).mono ?_
        rintro e w6 ⟨rfl, d6, x6⟩
        have l6 := x6.heap (show wr.drew.heap[m]? = _ from L5.out) (fun h => hap _ h.1 HL.out.fm)
        have g6 := x6.heap (show wr.drew.heap[w.heap.size]? = _ from G5.out) (fun h => by omega)
        have x06 : Chg (fun k => A k ∧ k < w.heap.size) w w6 := (X5.out.drew.mono (fun _ h => h.elim)).trans x6 (fun _ h => .inl h)
        have z5 : w.heap.size + 1 ≤ wr.heap.size := by have := lt_of_heap G5.out; omega
        have L6 := Lib.hid l6; have X6 := Lib.hid x06; have D6 := Lib.hid d6
        refine hK _ _ (fun _ => ⟨cell_of_row w6 m 0 _ _ _ L6.out, range_block g6⟩) ?_
        clear hK K
        clear l6 g6 x6 d6 x06
        iterate 1
          refine' lex_free (v := _) rfl rfl rfl ?_ (fun _ _ _ h => h) ?_
          rotate_left
          · rintro W ⟨hW1, _⟩
            go_simp
            with_reducible rfl
          try simp only [Act.put, List.setIfInBounds_toArray, List.set_cons_zero, List.set_cons_succ]
        refine lex_nil ?_
        have FIN := Lib.hid (show ∀ k, Ext (fun k => A k ∧ k < w.heap.size) wr.drew w6 k → k < w6.heap.size → Ext A w w6 k from fun k hk hl => by
          rcases hk with h | h
          · exact .inl h.1
          · have : wr.heap.size ≤ k := h.1
            exact .inr ⟨by omega, hl⟩)
        cases hdn : D.down with
        | true =>
          have he : ∀ z : Int, 0 ≤ z ∧ z < 3 → errOf D.size true z = 24 ∧ D.writeR z (headSec U n) = D := fun z hz => by
            have h1 : errOf D.size true z = 24 := by unfold errOf; rw [if_neg (by omega)]; rfl
            exact ⟨h1, by unfold Dsk.writeR; rw [hdn, h1, if_neg (by decide)]⟩
          obtain ⟨he1, he2⟩ := he _ hz3
          rw [he2] at D6
          rw [he1]
          rw [hdn] at HS
          clear he he1 he2
          go_wp2
          go_ret
          rw [HS.out]
          exact ⟨rfl, D6.out.mono FIN.out, ⟨_, _, HL.out.chg X6.out (fun k hk ha => hap k ha.1 hk)⟩, X6.out.mono (fun k hk => .inl hk.1)⟩
        | false =>
          have he : ∀ z : Int, 0 ≤ z ∧ z < 3 → errOf D.size false z = 0 ∧ D.writeR z (headSec U n) = D.write z (headSec U n) := fun z hz => by
            have h1 : errOf D.size false z = 0 := errOf_in (by omega) (by omega)
            exact ⟨h1, by unfold Dsk.writeR; rw [hdn, h1, if_pos rfl]⟩
          obtain ⟨he1, he2⟩ := he _ hz3
          rw [he2] at D6
          rw [he1]
          rw [hdn] at HS
          clear he he1 he2
          have l0 := cell_of_row w6 m 0 _ _ _ L6.out
          rw [HD1.out] at D6
          go_wp2_with fail
          refine (rsync_any r _ _ w6 D6.out).mono ?_
          rintro e w7 ⟨rfl, d7, x7⟩
          have x07 : Chg (fun k => A k ∧ k < w.heap.size) w w7 := X6.out.trans x7 (fun k h => by
            rcases h with h | h
            · exact .inl h
            · have : wr.heap.size ≤ k := h.1; exact .inr (by omega))
          have X7 := Lib.hid x07
          have d07 := d7.mono (G := Ext A w w7) (fun k hk hl => by
            rcases hk with h | h
            · rcases h with h | h
              · exact .inl h.1
              · have : wr.heap.size ≤ k := h.1; exact .inr ⟨by omega, hl⟩
            · have := X6.out.size; exact .inr ⟨by omega, hl⟩)
          have D7 := Lib.hid d07
          clear d7 x7 x07 d07
          cases hd1 : D1.down with
          | true =>
            simp only [if_true]
            rw [hd1] at D7 HS
            go_wp2
            go_ret
            rw [HS.out]
            exact ⟨rfl, D7.out, ⟨_, _, HL.out.chg X7.out (fun k hk ha => hap k ha.1 hk)⟩, X7.out.mono (fun k hk => .inl hk.1)⟩
          | false =>
            simp only [Bool.false_eq_true, if_false]
            rw [hd1] at D7 HS
            go_wp2
            go_ret
            rw [HS.out]
            exact ⟨rfl, D7.out, ⟨_, _, HL.out.chg X7.out (fun k hk ha => hap k ha.1 hk)⟩, X7.out.mono (fun k hk => .inl hk.1)⟩
end Go.Proofs.Ytihpobpkhhkejaa
