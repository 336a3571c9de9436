/-
  The walk of MvccChain: it returns true, for every two lists of bytes. Condition: they are read as they came in.
-/
import Derived.Test.YtkneldeemlngkaaMChainL
import Derived.Test.YtkneldeemlngkaaMAwake
import Derived.Deep.DeepCutAuto
set_option autoImplicit false
namespace Go.Proofs.Ytkneldeemlngkaa
open Go Go.RowKit

def From0 (w w' : World) : Prop := Chg (fun x => w.heap.size ≤ x) w w'
structure CW (w0 w : World) (lo r : Nat) (F : Nat → Prop) (v7 v8 v9 : Value) (made taken seen : List Int) (B : Bk) : Prop where
  m : Ints w lo v7 made
  t : Ints w lo v8 taken
  s : Ints w lo v9 seen
  a1 : Apart v7 v8
  a2 : Apart v7 v9
  a3 : Apart v8 v9
  b : BookAt w r F B
  fr : ∀ k, F k → w0.heap.size ≤ k ∧ k < lo
  x : From0 w0 w
  lo1 : lo ≤ w.heap.size
  lo0 : w0.heap.size ≤ lo
section
variable {w0 w w1 : World} {lo r : Nat} {F : Nat → Prop} {v7 v8 v9 u : Value} {made taken seen : List Int} {B B' : Bk}
theorem CW.quiet (h : CW w0 w lo r F v7 v8 v9 made taken seen B) (c : Chg (fun _ => False) w w1) : CW w0 w1 lo r F v7 v8 v9 made taken seen B :=
  ⟨h.m.quiet c, h.t.quiet c, h.s.quiet c, h.a1, h.a2, h.a3, h.b.quiet c, h.fr, Chg.trans h.x c (fun _ h => h.elim), Nat.le_trans h.lo1 c.size, h.lo0⟩
theorem CW.book (h : CW w0 w lo r F v7 v8 v9 made taken seen B) (c : Chg F w w1) (hb : BookAt w1 r F B') : CW w0 w1 lo r F v7 v8 v9 made taken seen B' := by
  have hi : ∀ {v : Value} {xs : List Int}, Ints w lo v xs → Ints w1 lo v xs := fun hv => hv.chg c (fun g hg hf => by have := hv.lo g hg; have := (h.fr g hf).2; omega)
  exact ⟨hi h.m, hi h.t, hi h.s, h.a1, h.a2, h.a3, hb, h.fr, Chg.trans h.x c (fun k hk => .inl (h.fr k hk).1), Nat.le_trans h.lo1 c.size, h.lo0⟩
/-- what an append leaves of the rest -/
theorem app_rest {v v' : Value} {xs ys : List Int} (_hv : Ints w lo v xs) (c : Chg (fun k => v.ownBlock = some k) w w1) (hn : ∀ g, v'.ownBlock = some g → v.ownBlock = some g ∨ g = w.heap.size) (hu : Ints w lo u ys) (ha : Apart v u) : Ints w1 lo u ys ∧ Apart v' u := by
  refine ⟨hu.chg c (fun g hg e => ha g e hg), fun g hg e => ?_⟩
  rcases hn g hg with h1 | h1
  · exact ha g h1 e
  · have := hu.lt e; omega
theorem CW.appS (h : CW w0 w lo r F v7 v8 v9 made taken seen B) {v' : Value} {y : Int} (hv : Ints w1 lo v' (seen ++ [y])) (c : Chg (fun k => v9.ownBlock = some k) w w1) (hn : ∀ g, v'.ownBlock = some g → v9.ownBlock = some g ∨ g = w.heap.size) :
    CW w0 w1 lo r F v7 v8 v' made taken (seen ++ [y]) B := by
  have h1 := app_rest h.s c hn h.m h.a2.symm
  have h2 := app_rest h.s c hn h.t h.a3.symm
  have hlo := h.lo0
  exact ⟨h1.1, h2.1, hv, h.a1, h1.2.symm, h2.2.symm, h.b.chg c (fun k hk e => by have := h.s.lo k e; have := (h.fr k hk).2; omega), h.fr, Chg.trans h.x c (fun k hk => .inl (by have := h.s.lo k hk; omega)), Nat.le_trans h.lo1 c.size, h.lo0⟩
theorem CW.appM (h : CW w0 w lo r F v7 v8 v9 made taken seen B) {v' : Value} {y : Int} (hv : Ints w1 lo v' (made ++ [y])) (c : Chg (fun k => v7.ownBlock = some k) w w1) (hn : ∀ g, v'.ownBlock = some g → v7.ownBlock = some g ∨ g = w.heap.size) :
    CW w0 w1 lo r F v' v8 v9 (made ++ [y]) taken seen B := by
  have h1 := app_rest h.m c hn h.t h.a1
  have h2 := app_rest h.m c hn h.s h.a2
  have hlo := h.lo0
  exact ⟨hv, h1.1, h2.1, h1.2, h2.2, h.a3, h.b.chg c (fun k hk e => by have := h.m.lo k e; have := (h.fr k hk).2; omega), h.fr, Chg.trans h.x c (fun k hk => .inl (by have := h.m.lo k hk; omega)), Nat.le_trans h.lo1 c.size, h.lo0⟩
theorem CW.appT (h : CW w0 w lo r F v7 v8 v9 made taken seen B) {v' : Value} {y : Int} (hv : Ints w1 lo v' (taken ++ [y])) (c : Chg (fun k => v8.ownBlock = some k) w w1) (hn : ∀ g, v'.ownBlock = some g → v8.ownBlock = some g ∨ g = w.heap.size) :
    CW w0 w1 lo r F v7 v' v9 made (taken ++ [y]) seen B := by
  have h1 := app_rest h.t c hn h.m h.a1.symm
  have h2 := app_rest h.t c hn h.s h.a3
  have hlo := h.lo0
  exact ⟨h1.1, hv, h2.1, h1.2.symm, h.a2, h2.2, h.b.chg c (fun k hk e => by have := h.t.lo k e; have := (h.fr k hk).2; omega), h.fr, Chg.trans h.x c (fun k hk => .inl (by have := h.t.lo k hk; omega)), Nat.le_trans h.lo1 c.size, h.lo0⟩
theorem CW.setT (h : CW w0 w lo r F v7 v8 v9 made taken seen B) {g : Nat} (hg : v8.ownBlock = some g) (j : Nat) (y : Int) : CW w0 (w.setCell ⟨g, j, none⟩ (.int .i64 y)) lo r F v7 v8 v9 made (taken.set j y) seen B := by
  have c : Chg (fun k => v8.ownBlock = some k) w (w.setCell ⟨g, j, none⟩ (.int .i64 y)) := (Chg.refl (fun k => v8.ownBlock = some k) w).setCell (p := ⟨g, j, none⟩) (.inl hg) _
  have hlo := h.lo0
  exact ⟨h.m.chg c (fun k hk e => h.a1 k hk e), h.t.set hg j y, h.s.chg c (fun k hk e => h.a3 k e hk), h.a1, h.a2, h.a3, h.b.chg c (fun k hk e => by have := h.t.lo k e; have := (h.fr k hk).2; omega), h.fr, Chg.trans h.x c (fun k hk => .inl (by have := h.t.lo k hk; omega)), Nat.le_trans h.lo1 c.size, h.lo0⟩
end
theorem start_none (nx mo : Int) : Bk.start nx mo noV 0 = { next := nx, most := mo, step := 0, first := nx, all := fun _ => none } := by
  unfold Bk.start; congr 1
theorem ChainI.le {B : Bk} {made taken seen : List Int} {n s n' s' : Int} (h : ChainI B made taken seen n s) (hn : n ≤ n') (hs : s ≤ s') : ChainI B made taken seen n' s' :=
  ⟨h.first, h.most, Int.le_trans h.next hn, Int.le_trans h.step hs, h.tlen, h.link, h.last, h.com, h.inc, h.seen⟩
theorem From0.at {a b : World} (h : From0 a b) {k i : Nat} {v : Value} (hk : k < a.heap.size) (hl : a.cell? ⟨k, i, none⟩ = some v) : b.cell? ⟨k, i, none⟩ = some v :=
  (cell_of_heap (Chg.keep h k hk (fun hf => by omega))).trans hl
theorem Ints.at_ {w : World} {lo n cap g : Nat} {xs : List Int} (h : Ints w lo (.slice (some ⟨g, 0, none⟩) n cap) xs) (j : Nat) (hj : j < xs.length) : w.cell? ⟨g, j, none⟩ = some (.int .i64 xs[j]) := by
  obtain ⟨ao, c, he, hf⟩ := h.form
  simp only [Value.slice.injEq] at he
  obtain ⟨g', hg', _, hc⟩ := hf (by omega)
  obtain ⟨rfl, _⟩ := he
  simp only [Option.some.injEq, Addr.mk.injEq] at hg'
  obtain ⟨rfl, _⟩ := hg'
  exact hc j hj
def nkL (q k : Nat) : Int := if 0 < q ∧ q ≤ k then 1 else 0
def lastL (q k : Nat) : Int := (min q k : Nat) - 1
theorem nkL_zero (q : Nat) : nkL q 0 = 0 := by unfold nkL; rw [if_neg (by omega)]
theorem lastL_zero (q : Nat) : lastL q 0 = -1 := by unfold lastL; simp
theorem nkL_yes {q k : Nat} (h : k + 1 = q) : nkL q k = 0 ∧ nkL q (k + 1) = 1 := by unfold nkL; rw [if_neg (by omega), if_pos (by omega)]; exact ⟨rfl, rfl⟩
theorem nkL_no {q k : Nat} (h : k + 1 ≠ q) : nkL q (k + 1) = nkL q k := by
  unfold nkL
  by_cases h1 : 0 < q ∧ q ≤ k
  · rw [if_pos h1, if_pos (by omega)]
  · rw [if_neg h1, if_neg (by omega)]
theorem lastL_yes {q k : Nat} (h : k < q) : lastL q (k + 1) = k := by unfold lastL; omega
theorem lastL_no {q k : Nat} (h : ¬ k < q) : lastL q (k + 1) = lastL q k := by unfold lastL; omega
set_option maxRecDepth 100000 in
set_option maxHeartbeats 4000000 in
theorem chain_walk (ae ar : Option Addr) (le ce lr cr : Nat) (Ev Rv : Nat → Int) (w : World) (hme : le ≤ 9223372036854775807) (hmr : lr ≤ 9223372036854775807) (he : SlRd w ae le 1 (fun i _ => .int .u8 (Ev i))) (hr : SlRd w ar lr 1 (fun i _ => .int .u8 (Rv i)))
    (hEv : ∀ i, i < le → 0 ≤ Ev i ∧ Ev i ≤ 255) (hRv : ∀ i, i < lr → 0 ≤ Rv i ∧ Rv i ≤ 255) :
    Calls Try.prog 3 #[.slice ae le ce, .slice ar lr cr] w fun e w' => e = .returned (.bool true) ∧ Below w.heap.size w w' := by
  have HE := Lib.hid he; have HR := Lib.hid hr; have HEV := Lib.hid hEv; have HRV := Lib.hid hRv
  clear he hr hEv hRv
  go_enter Try.func3, Try.ntmps3
  go_wp2_with (go_at_call 5; refine (awake19 _).mono ?_; rintro e w1 ⟨rfl, x1⟩)
  have X1 := Lib.hid x1
  clear x1
  go_wp2_with fail
  refine (new_ok 1 400 none 0 0 noV w1 (by omega) (rd_none _ _ _) (newOk_none 400 (by decide) (by decide))).mono ?_
  rintro e w2 ⟨r, rfl, b2, x2⟩
  rw [start_none] at b2
  have C0 : CW w w2 w2.heap.size r (Ext (fun _ => False) w1 w2) (.slice none 0 0) (.slice none 0 0) (.slice none 0 0) [] [] [] { next := 1, most := 400, step := 0, first := 1, all := fun _ => none } :=
    ⟨Ints.nil _ _, Ints.nil _ _, Ints.nil _ _, apart_nil _, apart_nil _, apart_nil _, b2, fun k hk => hk.elim (fun h => h.elim) (fun h => ⟨Nat.le_trans X1.out.size h.1, h.2⟩), (X1.out.trans x2 (fun _ h => h.elim)).mono (fun _ h => h.elim), Nat.le_refl _, Nat.le_trans X1.out.size x2.size⟩
  have HC := Lib.hid C0
  clear C0 b2 x2
  go_wp2
  go_loopw [7, 8, 9, 10] (fun s7 s8 s9 s10 wr => ∃ (i : Nat) (made taken seen : List Int) (B : Bk), i ≤ 40 ∧ i ≤ le ∧ s10 = .int .i64 i ∧ CW w wr w2.heap.size r (Ext (fun _ => False) w1 w2) s7 s8 s9 made taken seen B ∧ ChainI B made taken seen (1 + 2 * i) (3 * i) ∧ made.length ≤ i ∧ seen.length ≤ i) (fun _ _ _ s10 _ => 40 - (intOf s10).toNat)
  case atStart => exact ⟨0, [], [], [], _, by omega, by omega, rfl, HC.out, ChainI.start, Nat.le_refl _, Nat.le_refl _⟩
  case round =>
    clear HC
    obtain ⟨i, made, taken, seen, B, hi, hil, rfl, hc, hI, hml, hsl⟩ := hrel
    by_cases hgo : i < 40 ∧ i < le
    · obtain ⟨h40, hlt⟩ := hgo
      · obtain ⟨bE, oE, rfl, hbE, hcE⟩ := HE.out (by omega)
        have he0 := hc.x.at hbE (hcE i 0 hlt (by omega))
        have HE0 := Lib.hid (hcE i 0 hlt (by omega))
        simp only [Nat.mul_one, Nat.add_zero] at he0 HE0
        have hev := HEV.out i hlt
        clear hcE
        generalize Ev i = Ei at *
        have hBok := hc.b.ok
        have HBOK := Lib.hid hBok
        have hBn := hI.next
        have hBm := hI.most
        have hBs := hI.step
        have HCW := Lib.hid hc; have HI := Lib.hid hI
        clear hc hI hBok
        go_upto_region 10 with (fail)
        go_cut [46] (fun s46 wx => ∃ b : Bool, s46 = .bool b ∧ wx = wr)
        case first =>
          by_cases hrl : i < lr
          · obtain ⟨bR, oR, rfl, hbR, hcR⟩ := HR.out (by omega)
            have hr0 := HCW.out.x.at hbR (hcR i 0 hrl (by omega))
            simp only [Nat.mul_one, Nat.add_zero] at hr0
            clear hcR
            go_wp2
            go_meet
            exact ⟨_, rfl, rfl⟩
          · go_wp2
            go_meet
            exact ⟨_, rfl, rfl⟩
        case rest =>
          obtain ⟨bt, rfl, rfl⟩ := hcut
          go_upto_if 46 with (fail)
          go_cut [9, 11, 12] (fun s9 _ _ wx => ∃ (seen' : List Int) (B' : Bk), CW w wx w2.heap.size r (Ext (fun _ => False) w1 w2) u7 u8 s9 made taken seen' B' ∧ ChainI B' made taken seen' (2 + 2 * i) (3 * i + 1) ∧ seen'.length ≤ i + 1)
          case first =>
            cases bt with
            | false =>
              go_wp2
              go_meet
              exact ⟨seen, B, HCW.out, HI.out.le (by omega) (by omega), by omega⟩
            | true =>
              go_wp2_with fail
              refine (begin_ok r _ B _ HCW.out.b (by omega) (by omega)).mono ?_
              rintro e w3 ⟨rfl, b3, x3⟩
              have C3 := Lib.hid ((HCW.out.book x3 b3).quiet ((Chg.refl (fun _ => False) w3).alloc (.cells #[.int .i64 B.next] 3)))
              have I3 := Lib.hid (HI.out.reader HBOK.out)
              have N3 := Lib.hid (hal_new (w := w3) (o := .cells #[.int .i64 B.next] 3))
              clear b3 x3
              go_wp2_with (at_builtin; refine ints_app rfl _ _ rfl w2.heap.size u9 seen rfl C3.out.s w3.heap.size B.next rfl N3.out (by omega) C3.out.lo1 ?_)
              intro v' w4 hv c4 hn
              have C4 := Lib.hid (C3.out.appS hv c4 (fun g hg => by have := hn g hg; simpa using this))
              clear hv c4 hn
              go_wp2
              go_meet
              exact ⟨_, _, C4.out, I3.out.le (by omega) (by omega), by simp; omega⟩
          case rest =>
            clear HCW HI HBOK he0 hBn hBm hBs
            obtain ⟨seen', B', hc, hI, hsl'⟩ := hcut
            have hBn := hI.next
            have hBm := hI.most
            have hBs := hI.step
            have HBOK := Lib.hid hc.b.ok
            have HCW := Lib.hid hc; have HI := Lib.hid hI
            have I3 := Lib.hid (hI.begin hc.b.ok)
            have FR := Lib.hid (hI.fresh hc.b.ok)
            clear hc hI
            go_wp2_with fail
            refine (begin_ok r _ B' _ HCW.out.b (by omega) (by omega)).mono ?_
            rintro e w3 ⟨rfl, b3, x3⟩
            have C3 := Lib.hid (HCW.out.book x3 b3)
            have he0 := C3.out.x.at hbE HE0.out
            have hB3 := I3.out.step
            have hact := FR.out.act
            generalize hB3e : B'.begin = B3 at *
            generalize hne : B'.next = t at *
            clear hB3e hne b3 x3 HCW
            by_cases h3 : Ei % 4 = 3
            · have q3 : (Ei % 4 == 3) = true := by simpa using h3
              go_wp2_with fail
              refine (abort_any r _ B3 w3 t C3.out.b (by omega)).mono ?_
              rintro e w4 ⟨rfl, b4, x4⟩
              have C4 := Lib.hid (C3.out.book x4 b4)
              clear b4 x4
              go_wp2
              obtain ⟨bg, hb3⟩ := FR.out.act
              rw [endB_eq hb3] at C4
              go_roundw
              case rel => exact ⟨i + 1, _, _, _, _, by omega, by omega, by go_num, C4.out, ((I3.out.keepFin FR.out).le (by omega) (by omega)), by omega, by omega⟩
              case measure => simp [intOf]; omega
            · have q3 : (Ei % 4 == 3) = false := by simpa using h3
              have htl := I3.out.tlen
              obtain ⟨ao8, cap8, e8, hao8⟩ := C3.out.t.form
              by_cases ht : 0 < taken.length
              · obtain ⟨g8, ea8, ho8, hc8⟩ := hao8 ht
                obtain ⟨m8, hm8⟩ : ∃ m8, taken.length = m8 + 1 := ⟨taken.length - 1, by omega⟩
                have T4 := Lib.hid (C3.out.setT ho8 m8 t)
                obtain ⟨old8, hcl⟩ : ∃ x, w3.cell? ⟨g8, m8, none⟩ = some (.int .i64 x) := ⟨_, hc8 m8 (by omega)⟩
                have hfz := C3.out.t.free ho8 m8
                have HTK := Lib.hid (show take1 taken t = taken.set m8 t ++ [0] by unfold take1; rw [if_pos ht, show taken.length - 1 = m8 by omega])
                subst ea8
                rw [hm8] at e8
                have m8b : m8 ≤ 40 := by omega
                have tlb : taken.length ≤ 40 := by omega
                have HM8 := Lib.hid hm8; have HTL := Lib.hid htl
                clear hc8 hao8 hm8 ht htl
                subst e8
                go_upto_region 18 with (fail)
                have C4 := Lib.hid (C3.out.setT ho8 m8 t)
                generalize hw4 : w3.setCell ⟨g8, m8, none⟩ (.int .i64 t) = w4x at *
                clear hw4 hcl hfz he0
                have C45 := Lib.hid (C4.out.quiet ((Chg.refl (fun _ => False) w4x).alloc (.cells #[.int .i64 t] 3)))
                have N45 := Lib.hid (hal_new (w := w4x) (o := .cells #[.int .i64 t] 3))
                go_wp2_with (at_builtin; refine ints_app rfl _ _ rfl w2.heap.size u7 made rfl C45.out.m w4x.heap.size t rfl N45.out (by omega) C45.out.lo1 ?_)
                intro v5 w5 hv c5 hn
                have C5 := Lib.hid (C45.out.appM hv c5 (fun g hg => by have := hn g hg; simpa using this))
                clear hv c5 hn
                have C6 := Lib.hid (C5.out.quiet ((Chg.refl (fun _ => False) w5).alloc (.cells #[.int .i64 0] 3)))
                have N6 := Lib.hid (hal_new (w := w5) (o := .cells #[.int .i64 0] 3))
                go_wp2_with (at_builtin; refine ints_app rfl _ _ rfl w2.heap.size _ (taken.set m8 t) rfl C6.out.t w5.heap.size 0 rfl N6.out (by simp <;> omega) C6.out.lo1 ?_)
                intro v7 w7 hv c7 hn
                have C7 := Lib.hid (C6.out.appT hv (c7.mono (fun x hx => .inl (by simpa [Value.ownBlock] using hx))) (fun g hg => by have := hn g hg; simpa [Value.ownBlock] using this))
                clear hv c7 hn
                rw [← HTK.out] at C7
                go_wp2_with fail
                refine (commit_any r _ B3 _ t C7.out.b (by omega)).mono ?_
                rintro e w9 ⟨rfl, b9, x9⟩
                have C9 := Lib.hid (C7.out.book x9 b9)
                clear b9 x9
                go_wp2
                obtain ⟨bg, hb3⟩ := FR.out.act
                rw [endB_eq hb3] at C9
                go_roundw
                case rel => exact ⟨i + 1, _, _, _, _, by omega, by omega, by go_num, C9.out, ((I3.out.push FR.out).le (by omega) (by omega)), by simp; omega, by omega⟩
                case measure => simp [intOf]; omega
              · have ht0 : taken = [] := List.eq_nil_of_length_eq_zero (by omega)
                have HTK := Lib.hid (show take1 taken t = taken ++ [0] by unfold take1; rw [if_neg ht])
                clear hao8
                subst ht0
                subst e8
                clear ht htl
                go_upto_region 18 with (fail)
                have C45 := Lib.hid (C3.out.quiet ((Chg.refl (fun _ => False) w3).alloc (.cells #[.int .i64 t] 3)))
                have N45 := Lib.hid (hal_new (w := w3) (o := .cells #[.int .i64 t] 3))
                go_wp2_with (at_builtin; refine ints_app rfl _ _ rfl w2.heap.size u7 made rfl C45.out.m w3.heap.size t rfl N45.out (by omega) C45.out.lo1 ?_)
                intro v5 w5 hv c5 hn
                have C5 := Lib.hid (C45.out.appM hv c5 (fun g hg => by have := hn g hg; simpa using this))
                clear hv c5 hn
                have C6 := Lib.hid (C5.out.quiet ((Chg.refl (fun _ => False) w5).alloc (.cells #[.int .i64 0] 3)))
                have N6 := Lib.hid (hal_new (w := w5) (o := .cells #[.int .i64 0] 3))
                go_wp2_with (at_builtin; refine ints_app rfl _ _ rfl w2.heap.size _ [] rfl C6.out.t w5.heap.size 0 rfl N6.out (by simp <;> omega) C6.out.lo1 ?_)
                intro v7 w7 hv c7 hn
                have C7 := Lib.hid (C6.out.appT hv c7 (fun g hg => by have := hn g hg; simpa using this))
                clear hv c7 hn
                rw [← HTK.out] at C7
                go_wp2_with fail
                refine (commit_any r _ B3 _ t C7.out.b (by omega)).mono ?_
                rintro e w9 ⟨rfl, b9, x9⟩
                have C9 := Lib.hid (C7.out.book x9 b9)
                clear b9 x9
                go_wp2
                obtain ⟨bg, hb3⟩ := FR.out.act
                rw [endB_eq hb3] at C9
                go_roundw
                case rel => exact ⟨i + 1, _, _, _, _, by omega, by omega, by go_num, C9.out, ((I3.out.push FR.out).le (by omega) (by omega)), by simp; omega, by omega⟩
                case measure => simp [intOf]; omega
    · have HBOK := Lib.hid hc.b.ok
      have HC := Lib.hid hc; have HI := Lib.hid hI
      clear hc hI
      go_upto_region 8 with (fail)
      go_cut [32] (fun s32 wx => s32 = .bool false ∧ wx = wr)
      case first =>
        by_cases hlt : i < le
        · have h40 : ¬ i < 40 := by omega
          clear hgo
          go_wp2
          go_meet
          exact ⟨by simp; omega, rfl⟩
        · clear hgo
          go_wp2
          go_meet
          exact ⟨rfl, rfl⟩
      case rest =>
        obtain ⟨rfl, rfl⟩ := hcut
        clear hgo
        obtain ⟨ao7, cap7, rfl, hf7⟩ := HC.out.m.form
        obtain ⟨ao8, cap8, rfl, hf8⟩ := HC.out.t.form
        obtain ⟨ao9, cap9, rfl, hf9⟩ := HC.out.s.form
        have htl := HI.out.tlen
        have F7 := Lib.hid hf7; have F8 := Lib.hid hf8; have F9 := Lib.hid hf9; have HTL := Lib.hid htl
        clear hf7 hf8 hf9 htl
        go_wp2
        go_loopw [15] (fun s15 wr => ∃ j : Nat, j ≤ seen.length ∧ s15 = .int .i64 j ∧ CW w wr w2.heap.size r (Ext (fun _ => False) w1 w2) (.slice ao7 made.length cap7) (.slice ao8 taken.length cap8) (.slice ao9 seen.length cap9) made taken seen B) (fun s15 _ => seen.length - (intOf s15).toNat)
        case atStart => exact ⟨0, Nat.zero_le _, rfl, HC.out⟩
        case round =>
          clear HC
          obtain ⟨j, hj, rfl, hc⟩ := hrel
          have HC := Lib.hid hc
          clear hc
          by_cases hlt : j < seen.length
          · obtain ⟨g9, rfl, ho9, hc9⟩ := F9.out (by omega)
            have HS9 := Lib.hid (fun (W : World) (hW : CW w W w2.heap.size r (Ext (fun _ => False) w1 w2) (.slice ao7 made.length cap7) (.slice ao8 taken.length cap8) (.slice (some ⟨g9, 0, none⟩) seen.length cap9) made taken seen B) => hW.s.at_ j hlt)
            obtain ⟨q, hq, hq1, hq2⟩ := HI.out.law HBOK.out (r := seen[j]) (List.getElem_mem hlt)
            have HQ1 := Lib.hid hq1; have HQ2 := Lib.hid hq2
            generalize seen[j] = rd at *
            clear hc9 ho9 hq1 hq2
            go_wp2
            obtain ⟨wo, hwo⟩ : ∃ wo : World, wo = wr := ⟨_, rfl⟩
            subst hwo
            go_loopw [16, 17, 18] (fun s16 s17 s18 wr => ∃ k : Nat, k ≤ made.length ∧ s16 = .int .i64 (nkL q k) ∧ s17 = .int .i64 (lastL q k) ∧ s18 = .int .i64 k ∧ CW w wr w2.heap.size r (Ext (fun _ => False) w1 w2) (.slice ao7 made.length cap7) (.slice ao8 taken.length cap8) (.slice (some ⟨g9, 0, none⟩) seen.length cap9) made taken seen B) (fun _ _ s18 _ => made.length - (intOf s18).toNat)
            case atStart => exact ⟨0, Nat.zero_le _, by rw [nkL_zero], by rw [lastL_zero], rfl, HC.out⟩
            case round =>
              clear HC
              obtain ⟨k, hk, rfl, rfl, rfl, hc⟩ := hrel
              have HC := Lib.hid hc
              clear hc
              by_cases hkl : k < made.length
              · obtain ⟨g7, rfl, _, _⟩ := F7.out (by omega)
                have htl := HTL.out
                obtain ⟨g8, rfl, _, _⟩ := F8.out (by omega)
                have hm1 := HC.out.m.at_ k hkl
                have ht1 := HC.out.t.at_ k (by omega)
                have hs1 := HS9.out wr HC.out
                obtain ⟨mk, hmk⟩ : ∃ mk, made[k] = mk := ⟨_, rfl⟩
                obtain ⟨tk, htk⟩ : ∃ tk, taken[k]'(by omega) = tk := ⟨_, rfl⟩
                have hv := HQ2.out k mk tk (by rw [List.getElem?_eq_getElem hkl, hmk]) (by rw [List.getElem?_eq_getElem (by omega), htk])
                have hs := HQ1.out k mk (by rw [List.getElem?_eq_getElem hkl, hmk])
                rw [hmk] at hm1
                rw [htk] at ht1
                have HMK := Lib.hid hmk
                have HV := Lib.hid hv; have HSE := Lib.hid hs
                have j0 : (0 : Int) ≤ (j : Int) := by omega
                have j1 : (j : Int) < (seen.length : Int) := by omega
                have k0 : (0 : Int) ≤ (k : Int) := by omega
                have k1 : (k : Int) < (made.length : Int) := by omega
                have k2 : (k : Int) < (taken.length : Int) := by omega
                clear hv hs htl hmk htk
                by_cases e1 : k + 1 = q
                · obtain ⟨n0, n1⟩ := nkL_yes e1
                  have N1 := Lib.hid n1; have L1 := Lib.hid (lastL_yes (q := q) (k := k) (by omega))
                  rw [n0]
                  clear n0 n1
                  have hv : B.vers rd mk tk = true := by rw [HV.out]; simp; omega
                  have hs : B.sees rd mk = true := by rw [HSE.out]; simp; omega
                  have HV2 := Lib.hid hv; have HS2 := Lib.hid hs
                  clear hv hs
                  go_wp2_with fail
                  refine wp_region_lex (fun w' => w'.cell? ⟨g9, j, none⟩ = some (.int .i64 rd) ∧ w'.cell? ⟨g7, k, none⟩ = some (.int .i64 mk) ∧ w'.cell? ⟨g8, k, none⟩ = some (.int .i64 tk)) 13 [13] [0, 1, 2, 3, 4, 5, 6, 7, 8, 9, 10, 11, 12, 13] (by kernel_rfl) (by kernel_rfl) ⟨hs1, hm1, ht1⟩ ?_
                  iterate 13
                    refine' lex_free (v := _) rfl rfl rfl ?_ (fun _ _ _ h => h) ?_
                    rotate_left
                    · rintro W ⟨hW1, hW2, hW3⟩
                      go_simp
                      with_reducible rfl
                    try simp only [Act.put, List.setIfInBounds_toArray, List.set_cons_zero, List.set_cons_succ]
                  refine lex_op rfl rfl rfl (fun K hK => ?_)
                  go_simp
                  refine (version_any r _ B _ rd mk tk (HC.out.quiet (Chg.refl _ _).drew).b).mono ?_
                  rintro e w4 ⟨rfl, x4⟩
                  have C4 := Lib.hid ((HC.out.quiet (Chg.refl _ _).drew).quiet x4)
                  rw [HV2.out]
                  refine hK _ _ (fun h => absurd rfl h) ?_
                  clear hK K x4 hs1 hm1 ht1
                  refine lex_nil ?_
                  have hs1 := HS9.out w4 C4.out
                  have hm1 := C4.out.m.at_ k hkl
                  rw [HMK.out] at hm1
                  go_wp2_with fail
                  refine wp_region_lex (fun w' => w'.cell? ⟨g9, j, none⟩ = some (.int .i64 rd) ∧ w'.cell? ⟨g7, k, none⟩ = some (.int .i64 mk)) 9 [9] [0, 1, 2, 3, 4, 5, 6, 7, 8, 9] (by kernel_rfl) (by kernel_rfl) ⟨hs1, hm1⟩ ?_
                  iterate 9
                    refine' lex_free (v := _) rfl rfl rfl ?_ (fun _ _ _ h => h) ?_
                    rotate_left
                    · rintro W ⟨hW1, hW2⟩
                      go_simp
                      with_reducible rfl
                    try simp only [Act.put, List.setIfInBounds_toArray, List.set_cons_zero, List.set_cons_succ]
                  refine lex_op rfl rfl rfl (fun K hK => ?_)
                  go_simp
                  refine (sees_any r _ B _ rd mk (C4.out.quiet (Chg.refl _ _).drew).b).mono ?_
                  rintro e w5 ⟨rfl, x5⟩
                  have C5 := Lib.hid ((C4.out.quiet (Chg.refl _ _).drew).quiet x5)
                  rw [HS2.out]
                  refine hK _ _ (fun h => absurd rfl h) ?_
                  clear hK K x5 hs1 hm1
                  refine lex_nil ?_
                  go_wp2
                  go_roundw
                  case rel => exact ⟨k + 1, by omega, by rw [N1.out], by rw [L1.out], by go_num, C5.out⟩
                  case measure => simp [intOf]; omega
                · have N1 := Lib.hid (nkL_no e1)
                  by_cases e2 : k < q
                  · have L1 := Lib.hid (lastL_yes e2)
                    have hv : B.vers rd mk tk = false := by rw [HV.out]; simp; omega
                    have hs : B.sees rd mk = true := by rw [HSE.out]; simp; omega
                    have HV2 := Lib.hid hv; have HS2 := Lib.hid hs
                    clear hv hs
                    go_wp2_with fail
                    refine wp_region_lex (fun w' => w'.cell? ⟨g9, j, none⟩ = some (.int .i64 rd) ∧ w'.cell? ⟨g7, k, none⟩ = some (.int .i64 mk) ∧ w'.cell? ⟨g8, k, none⟩ = some (.int .i64 tk)) 13 [13] [0, 1, 2, 3, 4, 5, 6, 7, 8, 9, 10, 11, 12, 13] (by kernel_rfl) (by kernel_rfl) ⟨hs1, hm1, ht1⟩ ?_
                    iterate 13
                      refine' lex_free (v := _) rfl rfl rfl ?_ (fun _ _ _ h => h) ?_
                      rotate_left
                      · rintro W ⟨hW1, hW2, hW3⟩
                        go_simp
                        with_reducible rfl
                      try simp only [Act.put, List.setIfInBounds_toArray, List.set_cons_zero, List.set_cons_succ]
                    refine lex_op rfl rfl rfl (fun K hK => ?_)
                    go_simp
                    refine (version_any r _ B _ rd mk tk (HC.out.quiet (Chg.refl _ _).drew).b).mono ?_
                    rintro e w4 ⟨rfl, x4⟩
                    have C4 := Lib.hid ((HC.out.quiet (Chg.refl _ _).drew).quiet x4)
                    rw [HV2.out]
                    refine hK _ _ (fun h => absurd rfl h) ?_
                    clear hK K x4 hs1 hm1 ht1
                    refine lex_nil ?_
                    have hs1 := HS9.out w4 C4.out
                    have hm1 := C4.out.m.at_ k hkl
                    rw [HMK.out] at hm1
                    go_wp2_with fail
                    refine wp_region_lex (fun w' => w'.cell? ⟨g9, j, none⟩ = some (.int .i64 rd) ∧ w'.cell? ⟨g7, k, none⟩ = some (.int .i64 mk)) 9 [9] [0, 1, 2, 3, 4, 5, 6, 7, 8, 9] (by kernel_rfl) (by kernel_rfl) ⟨hs1, hm1⟩ ?_
                    iterate 9
                      refine' lex_free (v := _) rfl rfl rfl ?_ (fun _ _ _ h => h) ?_
                      rotate_left
                      · rintro W ⟨hW1, hW2⟩
                        go_simp
                        with_reducible rfl
                      try simp only [Act.put, List.setIfInBounds_toArray, List.set_cons_zero, List.set_cons_succ]
                    refine lex_op rfl rfl rfl (fun K hK => ?_)
                    go_simp
                    refine (sees_any r _ B _ rd mk (C4.out.quiet (Chg.refl _ _).drew).b).mono ?_
                    rintro e w5 ⟨rfl, x5⟩
                    have C5 := Lib.hid ((C4.out.quiet (Chg.refl _ _).drew).quiet x5)
                    rw [HS2.out]
                    refine hK _ _ (fun h => absurd rfl h) ?_
                    clear hK K x5 hs1 hm1
                    refine lex_nil ?_
                    go_wp2
                    go_roundw
                    case rel => exact ⟨k + 1, by omega, by rw [N1.out], by rw [L1.out], by go_num, C5.out⟩
                    case measure => simp [intOf]; omega
                  · have L1 := Lib.hid (lastL_no e2)
                    have hv : B.vers rd mk tk = false := by rw [HV.out]; simp; omega
                    have hs : B.sees rd mk = false := by rw [HSE.out]; simp; omega
                    have HV2 := Lib.hid hv; have HS2 := Lib.hid hs
                    clear hv hs
                    go_wp2_with fail
                    refine wp_region_lex (fun w' => w'.cell? ⟨g9, j, none⟩ = some (.int .i64 rd) ∧ w'.cell? ⟨g7, k, none⟩ = some (.int .i64 mk) ∧ w'.cell? ⟨g8, k, none⟩ = some (.int .i64 tk)) 13 [13] [0, 1, 2, 3, 4, 5, 6, 7, 8, 9, 10, 11, 12, 13] (by kernel_rfl) (by kernel_rfl) ⟨hs1, hm1, ht1⟩ ?_
                    iterate 13
                      refine' lex_free (v := _) rfl rfl rfl ?_ (fun _ _ _ h => h) ?_
                      rotate_left
                      · rintro W ⟨hW1, hW2, hW3⟩
                        go_simp
                        with_reducible rfl
                      try simp only [Act.put, List.setIfInBounds_toArray, List.set_cons_zero, List.set_cons_succ]
                    refine lex_op rfl rfl rfl (fun K hK => ?_)
                    go_simp
                    refine (version_any r _ B _ rd mk tk (HC.out.quiet (Chg.refl _ _).drew).b).mono ?_
                    rintro e w4 ⟨rfl, x4⟩
                    have C4 := Lib.hid ((HC.out.quiet (Chg.refl _ _).drew).quiet x4)
                    rw [HV2.out]
                    refine hK _ _ (fun h => absurd rfl h) ?_
                    clear hK K x4 hs1 hm1 ht1
                    refine lex_nil ?_
                    have hs1 := HS9.out w4 C4.out
                    have hm1 := C4.out.m.at_ k hkl
                    rw [HMK.out] at hm1
                    go_wp2_with fail
                    refine wp_region_lex (fun w' => w'.cell? ⟨g9, j, none⟩ = some (.int .i64 rd) ∧ w'.cell? ⟨g7, k, none⟩ = some (.int .i64 mk)) 9 [9] [0, 1, 2, 3, 4, 5, 6, 7, 8, 9] (by kernel_rfl) (by kernel_rfl) ⟨hs1, hm1⟩ ?_
                    iterate 9
                      refine' lex_free (v := _) rfl rfl rfl ?_ (fun _ _ _ h => h) ?_
                      rotate_left
                      · rintro W ⟨hW1, hW2⟩
                        go_simp
                        with_reducible rfl
                      try simp only [Act.put, List.setIfInBounds_toArray, List.set_cons_zero, List.set_cons_succ]
                    refine lex_op rfl rfl rfl (fun K hK => ?_)
                    go_simp
                    refine (sees_any r _ B _ rd mk (C4.out.quiet (Chg.refl _ _).drew).b).mono ?_
                    rintro e w5 ⟨rfl, x5⟩
                    have C5 := Lib.hid ((C4.out.quiet (Chg.refl _ _).drew).quiet x5)
                    rw [HS2.out]
                    refine hK _ _ (fun h => absurd rfl h) ?_
                    clear hK K x5 hs1 hm1
                    refine lex_nil ?_
                    go_wp2
                    go_roundw
                    case rel => exact ⟨k + 1, by omega, by rw [N1.out], by rw [L1.out], by go_num, C5.out⟩
                    case measure => simp [intOf]; omega
              · have hkq : k = made.length := by omega
                by_cases hq0 : q = 0
                · have n0 : nkL q k = 0 := by unfold nkL; rw [if_neg (by omega)]
                  have l0 : lastL q k = -1 := by unfold lastL; omega
                  rw [n0, l0]
                  clear n0 l0
                  go_wp2_with fail
                  refine wp_region_lex (fun w' => CW w w' w2.heap.size r (Ext (fun _ => False) w1 w2) (.slice ao7 made.length cap7) (.slice ao8 taken.length cap8) (.slice (some ⟨g9, 0, none⟩) seen.length cap9) made taken seen B) 99 [26] [0, 1, 2, 3, 4, 5, 6, 7, 8, 9, 10, 11, 12, 13, 14, 15, 16, 17, 18, 19, 20, 21, 22, 23, 24, 25, 26, 27, 28, 29] (by kernel_rfl) (by kernel_rfl) (HC.out.quiet (Chg.refl _ _).drew) ?_
                  iterate 3
                    refine' lex_free (v := _) rfl rfl rfl ?_ (fun _ _ _ h => h) ?_
                    rotate_left
                    · rintro W hWA
                      go_simp
                      with_reducible rfl
                    try simp only [Act.put, List.setIfInBounds_toArray, List.set_cons_zero, List.set_cons_succ]
                  iterate 5
                    refine' lex_freeG (v := _) rfl rfl rfl ?_ (fun _ _ _ h => h) ?_
                    rotate_left
                    · rintro W hWA
                      go_simp
                      with_reducible rfl
                    try simp only [Act.put, List.setIfInBounds_toArray, List.set_cons_zero, List.set_cons_succ]
                  iterate 2
                    refine' lex_free (v := _) rfl rfl rfl ?_ (fun _ _ _ h => h) ?_
                    rotate_left
                    · rintro W hWA
                      go_simp
                      with_reducible rfl
                    try simp only [Act.put, List.setIfInBounds_toArray, List.set_cons_zero, List.set_cons_succ]
                  iterate 3
                    refine' lex_freeG (v := _) rfl rfl rfl ?_ (fun _ _ _ h => h) ?_
                    rotate_left
                    · rintro W hWA
                      go_simp
                      with_reducible rfl
                    try simp only [Act.put, List.setIfInBounds_toArray, List.set_cons_zero, List.set_cons_succ]
                  iterate 13
                    refine lex_skip rfl rfl rfl (fun _ _ _ h => h) ?_
                    try simp only [Act.put, List.setIfInBounds_toArray, List.set_cons_zero, List.set_cons_succ]
                  refine lex_skipE rfl rfl rfl (HC.out.quiet (Chg.refl _ _).drew) ?_
                  try simp only [Act.put, List.setIfInBounds_toArray, List.set_cons_zero, List.set_cons_succ]
                  iterate 1
                    refine lex_skip rfl rfl rfl (fun _ _ _ h => h) ?_
                    try simp only [Act.put, List.setIfInBounds_toArray, List.set_cons_zero, List.set_cons_succ]
                  iterate 1
                    refine' lex_freeG (v := _) rfl rfl rfl ?_ (fun _ _ _ h => h) ?_
                    rotate_left
                    · rintro W hWA
                      go_simp
                      with_reducible rfl
                    try simp only [Act.put, List.setIfInBounds_toArray, List.set_cons_zero, List.set_cons_succ]
                  iterate 1
                    refine' lex_free (v := _) rfl rfl rfl ?_ (fun _ _ _ h => h) ?_
                    rotate_left
                    · rintro W hWA
                      go_simp
                      with_reducible rfl
                    try simp only [Act.put, List.setIfInBounds_toArray, List.set_cons_zero, List.set_cons_succ]
                  refine lex_nil ?_
                  go_wp2
                  go_roundw
                  case rel => exact ⟨j + 1, by omega, by go_num, HC.out.quiet (Chg.refl _ _).drew⟩
                  case measure => simp [intOf]; omega
                · obtain ⟨m, rfl⟩ : ∃ m, q = m + 1 := ⟨q - 1, by omega⟩
                  have n0 : nkL (m + 1) k = 1 := by unfold nkL; rw [if_pos (by omega)]
                  have l0 : lastL (m + 1) k = m := by unfold lastL; omega
                  rw [n0, l0]
                  clear n0 l0
                  have hml : m < made.length := by omega
                  have htl := HTL.out
                  obtain ⟨g7, rfl, _, _⟩ := F7.out (by omega)
                  obtain ⟨g8, rfl, _, _⟩ := F8.out (by omega)
                  have hm1 := HC.out.m.at_ m hml
                  have ht1 := HC.out.t.at_ m (by omega)
                  have hs1 := HS9.out wr HC.out
                  obtain ⟨mk, hmk⟩ : ∃ mk, made[m] = mk := ⟨_, rfl⟩
                  obtain ⟨tk, htk⟩ : ∃ tk, taken[m]'(by omega) = tk := ⟨_, rfl⟩
                  have hv := HQ2.out m mk tk (by rw [List.getElem?_eq_getElem hml, hmk]) (by rw [List.getElem?_eq_getElem (by omega), htk])
                  have hv1 : B.vers rd mk tk = true := by rw [hv]; simp
                  rw [hmk] at hm1
                  rw [htk] at ht1
                  have HV := Lib.hid hv1
                  have j0 : (0 : Int) ≤ (j : Int) := by omega
                  have j1 : (j : Int) < (seen.length : Int) := by omega
                  have k0 : (0 : Int) ≤ (m : Int) := by omega
                  have k1 : (m : Int) < (made.length : Int) := by omega
                  have k2 : (m : Int) < (taken.length : Int) := by omega
                  clear hv hv1 htl hmk htk hq0
                  go_wp2_with fail
                  refine wp_region_lex (fun w' => w'.cell? ⟨g9, j, none⟩ = some (.int .i64 rd) ∧ w'.cell? ⟨g7, m, none⟩ = some (.int .i64 mk) ∧ w'.cell? ⟨g8, m, none⟩ = some (.int .i64 tk)) 99 [26] [0, 1, 2, 3, 4, 5, 6, 7, 8, 9, 10, 11, 12, 13, 14, 15, 16, 17, 18, 19, 20, 21, 22, 23, 24, 25, 26, 27, 28, 29] (by kernel_rfl) (by kernel_rfl) ⟨hs1, hm1, ht1⟩ ?_
                  iterate 3
                    refine' lex_free (v := _) rfl rfl rfl ?_ (fun _ _ _ h => h) ?_
                    rotate_left
                    · rintro W ⟨hW1, hW2, hW3⟩
                      go_simp
                      with_reducible rfl
                    try simp only [Act.put, List.setIfInBounds_toArray, List.set_cons_zero, List.set_cons_succ]
                  iterate 5
                    refine' lex_freeG (v := _) rfl rfl rfl ?_ (fun _ _ _ h => h) ?_
                    rotate_left
                    · rintro W ⟨hW1, hW2, hW3⟩
                      go_simp
                      with_reducible rfl
                    try simp only [Act.put, List.setIfInBounds_toArray, List.set_cons_zero, List.set_cons_succ]
                  iterate 2
                    refine' lex_free (v := _) rfl rfl rfl ?_ (fun _ _ _ h => h) ?_
                    rotate_left
                    · rintro W ⟨hW1, hW2, hW3⟩
                      go_simp
                      with_reducible rfl
                    try simp only [Act.put, List.setIfInBounds_toArray, List.set_cons_zero, List.set_cons_succ]
                  iterate 16
                    refine' lex_freeG (v := _) rfl rfl rfl ?_ (fun _ _ _ h => h) ?_
                    rotate_left
                    · rintro W ⟨hW1, hW2, hW3⟩
                      go_simp
                      with_reducible rfl
                    try simp only [Act.put, List.setIfInBounds_toArray, List.set_cons_zero, List.set_cons_succ]
                  refine lex_opG rfl rfl rfl (fun K hK => ?_)
                  go_simp
                  refine (version_any r _ B _ rd mk tk (HC.out.quiet (Chg.refl _ _).drew).b).mono ?_
                  rintro e w5 ⟨rfl, x5⟩
                  have C5 := Lib.hid ((HC.out.quiet (Chg.refl _ _).drew).quiet x5)
                  have hs2 := HS9.out w5 C5.out
                  have hm2 : w5.cell? ⟨g7, m, none⟩ = some (.int .i64 mk) := (cell_of_heap (Chg.keep ((Chg.refl (fun _ => False) _).drew.trans x5 (fun _ h => h.elim)) g7 (World.block_lt_of_cell? _ _ hm1) (fun h => h))).trans hm1
                  have ht2 : w5.cell? ⟨g8, m, none⟩ = some (.int .i64 tk) := (cell_of_heap (Chg.keep ((Chg.refl (fun _ => False) _).drew.trans x5 (fun _ h => h.elim)) g8 (World.block_lt_of_cell? _ _ ht1) (fun h => h))).trans ht1
                  rw [HV.out]
                  refine hK _ _ (fun _ => ⟨hs2, hm2, ht2⟩) ?_
                  clear hK K x5 hs1 hm1 ht1
                  try simp only [Act.put, List.setIfInBounds_toArray, List.set_cons_zero, List.set_cons_succ]
                  iterate 2
                    refine' lex_freeG (v := _) rfl rfl rfl ?_ (fun _ _ _ h => h) ?_
                    rotate_left
                    · rintro W ⟨hW1, hW2, hW3⟩
                      go_simp
                      with_reducible rfl
                    try simp only [Act.put, List.setIfInBounds_toArray, List.set_cons_zero, List.set_cons_succ]
                  iterate 1
                    refine' lex_free (v := _) rfl rfl rfl ?_ (fun _ _ _ h => h) ?_
                    rotate_left
                    · rintro W ⟨hW1, hW2, hW3⟩
                      go_simp
                      with_reducible rfl
                    try simp only [Act.put, List.setIfInBounds_toArray, List.set_cons_zero, List.set_cons_succ]
                  refine lex_nil ?_
                  go_wp2
                  go_roundw
                  case rel => exact ⟨j + 1, by omega, by go_num, C5.out⟩
                  case measure => simp [intOf]; omega
          · go_wp2
            go_ret
            exact ⟨rfl, Chg.below HC.out.x (fun _ h => h) (Nat.le_refl _)⟩
end Go.Proofs.Ytkneldeemlngkaa
