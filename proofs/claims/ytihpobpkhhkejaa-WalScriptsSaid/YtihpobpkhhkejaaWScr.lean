/-
  WalScripts: the walk. Conditions: the script can be read.
-/
import Derived.Test.YtihpobpkhhkejaaWRefJ
import Derived.Deep.CutBlock
import Derived.Test.YtihpobpkhhkejaaSecEq
import Derived.Test.YtihpobpkhhkejaaD3A
set_option autoImplicit false
namespace Go.Proofs.Ytihpobpkhhkejaa
open Go Go.RowKit

set_option maxRecDepth 100000 in
set_option maxHeartbeats 40000000 in
theorem wscripts_walk (n : Int) (ao : Option Addr) (len cap : Nat) (K N : Nat → Int) (da ka : Nat → Option Addr) (dl dc kl kc : Nat → Nat) (ds : Nat → List Int) (ks : Nat → List Bool) (w : World) (hlen : len ≤ 2300000000000)
    (hp : SlRd w ao len 4 (fun i j => if j = 0 then .int .i64 (K i) else if j = 1 then .int .i64 (N i) else if j = 2 then .slice (da i) (dl i) (dc i) else .slice (ka i) (kl i) (kc i)))
    (hd : ∀ i, i < len → BytR w (fun x => w.heap.size ≤ x) (.slice (da i) (dl i) (dc i)) (ds i) ∧ (ds i).length ≤ 140737488355328)
    (hb : ∀ i, i < len → BoolsAt w (fun x => w.heap.size ≤ x) (.slice (ka i) (kl i) (kc i)) (ks i)) (hr : ∀ i, i < len → N i ≤ 9223372036854775807) :
    Calls Try.prog 13 #[.int .i64 n, .slice ao len cap] w fun e w' => e = .returned (.bool true) ∧ Chg (fun _ => False) w w' := by
  have HP := Lib.hid hp; have HD := Lib.hid hd; have HB := Lib.hid hb; have HR := Lib.hid hr
  clear hp hd hb hr
  go_enter Try.func13, Try.ntmps13
  go_wp2_with fail
  refine (awake4 w).mono ?_
  rintro e w1 ⟨rfl, x1⟩
  have X1 := Lib.hid x1
  clear x1
  go_upto_if 29 with (fail)
  go_cut [5] (fun s5 wx => ∃ z : Int, s5 = .int .i64 z ∧ z ≤ 40 ∧ wx = w1)
  case first =>
    go_wp2
    all_goals
      go_meet
      first
        | exact ⟨40, rfl, by omega, rfl⟩
        | exact ⟨n, rfl, by omega, rfl⟩
  case rest =>
    obtain ⟨z, rfl, hz, rfl⟩ := hcut
    go_wp2_with fail
    refine (zd_new z _).mono ?_
    rintro e w2 ⟨d, Z, rfl, zd, g2⟩
    have ZD := Lib.hid zd; have G2 := Lib.hid g2
    clear zd g2
    go_wp2_with fail
    refine (rd_new z w2).mono ?_
    rintro e w3 ⟨r, Y, rfl, rd, g3⟩
    have S3 := Lib.hid (st_start ZD.out G2.out rd g3 X1.out)
    clear rd g3 ZD G2 X1
    go_wp2_with fail
    refine (lo_open S3.out.lo.zd (byt_new z).1).mono ?_
    rintro e w4 ⟨lv, pv, Z', rfl, lo, rp, g4, x4⟩
    obtain ⟨lp, rfl, hlp⟩ := lo.opt
    have S4 := Lib.hid (S3.out.left lo g4)
    have RP := Lib.hid rp; have HLP := Lib.hid hlp
    clear lo rp g4 x4 S3 hlp
    go_wp2_with fail
    refine (ro_open S4.out.ro.rd (byt_new z).1).mono ?_
    rintro e w5 ⟨mv, qv, Y', rfl, ro, rq, g5, x5⟩
    obtain ⟨mp, rfl, hmp⟩ := ro.opt
    have S5 := Lib.hid (S4.out.right ro g5)
    have RQ := Lib.hid rq
    have RP5 := Lib.hid (RP.out.grow ⟨x5.mono (fun _ h => h.elim), fun k hk => .inl hk⟩)
    have hlm : lp.isNone = mp.isNone := HLP.out.trans hmp.symm
    clear hmp HLP ro rq g5 x5 RP S4
    go_upto_if 61 with (go_at_call 37; refine (same_any _ _ _ _ _ _ _ RP5.out RQ.out).mono ?_; rintro e w6 ⟨rfl, x6⟩)
    have S6 := Lib.hid (S5.out.quiet x6)
    clear x6 S5 RP5 RQ
    have I6 := Lib.hid ((InvS.start z hz).openedK S6.out.lo.zd.h64)
    generalize (openR (Dsk.new z)).2.map (·.1) = o6 at *
    generalize Dsk.new z = D6 at *
    go_wp2_with fail
    go_loopg [8, 11, 14] len (fun g s8 s11 s14 wr => ∃ (k : Nat) (D : Dsk) (o : Option Lg) (Z Y : Nat → Prop) (lp mp : Option Addr), k + g = len ∧ s14 = .int .i64 k ∧ s8 = .pointer lp ∧ s11 = .pointer mp ∧ lp.isNone = mp.isNone ∧ St w w (fun k => k < w.heap.size) Z Y wr d r D D o o (.pointer lp) (.pointer mp) ∧ InvS D o k)
    case atStart => exact ⟨0, D6, o6, Z', Y', lp, mp, Nat.zero_add _, rfl, rfl, rfl, hlm, S6.out, I6.out⟩
    case round =>
      clear S6 I6
      obtain ⟨k, D, o, Z, Y, lp, mp, hk, rfl, rfl, rfl, hlm, hst, hiv⟩ := hrel
      obtain ⟨wq, h3⟩ : ∃ x, x = wr := ⟨_, rfl⟩
      subst h3
      have S0 := Lib.hid hst; have I0 := Lib.hid hiv; have HLM := Lib.hid hlm
      clear hst hiv hlm
      by_cases hlt : k < len
      · obtain ⟨b, off, rfl, hbl, hc⟩ := HP.out (by omega)
        have hc0 := (cell_of_heap (S0.out.all.keep b hbl (fun h => h))).trans (hc k 0 hlt (by omega))
        have hc1 := (cell_of_heap (S0.out.all.keep b hbl (fun h => h))).trans (hc k 1 hlt (by omega))
        have hc2 := (cell_of_heap (S0.out.all.keep b hbl (fun h => h))).trans (hc k 2 hlt (by omega))
        have hc3 := (cell_of_heap (S0.out.all.keep b hbl (fun h => h))).trans (hc k 3 hlt (by omega))
        simp only [if_true, if_false, Nat.add_zero, Nat.one_ne_zero, Nat.reduceEqDiff] at hc0 hc1 hc2 hc3
        clear hc
        have HNk := Lib.hid (HR.out k hlt)
        have HDk := Lib.hid (HD.out k hlt)
        have HBk := Lib.hid (HB.out k hlt)
        generalize K k = Kk at *
        generalize N k = Nk at *
        generalize da k = dak at *
        generalize dl k = dlk at *
        generalize dc k = dck at *
        generalize ka k = kak at *
        generalize kl k = klk at *
        generalize kc k = kck at *
        generalize ds k = dsk at *
        generalize ks k = ksk at *
        have S1 := Lib.hid (S0.out.fresh (P' := fun q => q < w.heap.size ∨ q = wq.heap.size) ((Chg.refl (fun _ => False) wq).alloc (.cells #[.int .i64 Kk, .int .i64 Nk, .slice dak dlk dck, .slice kak klk kck] 82)) (fun _ h => .inl h) (fun q hq => hq.imp id (fun h => ⟨Nat.le_of_eq h.symm, by subst h; simp⟩)))
        have OP := Lib.hid (hal_new (w := wq) (o := .cells #[.int .i64 Kk, .int .i64 Nk, .slice dak dlk dck, .slice kak klk kck] 82))
        have hz1 : (wq.alloc (.cells #[.int .i64 Kk, .int .i64 Nk, .slice dak dlk dck, .slice kak klk kck] 82)).heap.size = wq.heap.size + 1 := by simp
        go_upto_block 2 with (fail)
        generalize wq.alloc (.cells #[.int .i64 Kk, .int .i64 Nk, .slice dak dlk dck, .slice kak klk kck] 82) = W1 at *
        have oc0 := cell_of_row W1 wq.heap.size 0 _ _ _ OP.out
        have oc1 := cell_of_row W1 wq.heap.size 1 _ _ _ OP.out
        have oc2 := cell_of_row W1 wq.heap.size 2 _ _ _ OP.out
        have oc3 := cell_of_row W1 wq.heap.size 3 _ _ _ OP.out
        have HZ1 := Lib.hid hz1; have OC0 := Lib.hid oc0; have OC1 := Lib.hid oc1; have OC2 := Lib.hid oc2; have OC3 := Lib.hid oc3
        have hwl : D.wait.length < 2800000000000 := by have := I0.out.wait; split at this <;> omega
        clear hc0 hc1 hc2 hc3 oc0 oc1 oc2 oc3 S0 hz1
        go_cut [16, 17] (fun s16 s17 wx => ∃ (a : Int) (D1 : Dsk) (o1 : Option Lg) (Z1 Y1 : Nat → Prop) (W : World), s16 = .int .i64 a ∧ s17 = .int .i64 a ∧ St w W (fun q => q < w.heap.size ∨ q = wq.heap.size) Z1 Y1 wx d r D1 D1 o1 o1 (.pointer lp) (.pointer mp) ∧ wx.heap[wq.heap.size]? = some (.cells #[.int .i64 Kk, .int .i64 Nk, .slice dak dlk dck, .slice kak klk kck] 82 (0, 0)) ∧ InvS D1 o1 (k + 1))
        case first =>
          by_cases h1 : Kk = 1
          · as_aux_lemma =>
            subst h1
            obtain ⟨hdby, hdl⟩ := HDk.out
            have xb : Chg (fun _ => False) W1 (W1.alloc (.cells #[] 5)) := (Chg.refl _ _).alloc _
            have hzb : (W1.alloc (.cells #[] 5)).heap.size = W1.heap.size + 1 := by simp
            have hby : BytR (W1.alloc (.cells #[] 5)) (fun q => w.heap.size ≤ q) (.slice dak dlk dck) dsk := (S1.out.byt hdby (fun _ h => h)).chg xb (fun _ h => h.elim)
            have hget := hby.get
            have oc2 := cell_of_row (W1.alloc (.cells #[] 5)) wq.heap.size 2 _ _ _ (xb.heap OP.out (fun h => h))
            have XB := Lib.hid xb
            have HGET := Lib.hid hget; have HDBY := Lib.hid hdby; have HDL := Lib.hid hdl
            have HZB := Lib.hid hzb
            clear hby hget xb hdby hdl hzb
            go_wp2_with (at_builtin; refine wpList_copyB rfl _ _ rfl W1.heap.size rfl hal_new dak dlk dck dsk HGET.out.1 rfl HGET.out.2.1 HGET.out.2.2 HDL.out ?_)
            intro v5 w5 b5 x5 n5
            have XC := Lib.hid (XB.out.trans x5 (fun _ h => h.elim))
            have S5 := Lib.hid (S1.out.fresh (P' := fun q => (q < w.heap.size ∨ q = wq.heap.size) ∨ (W1.heap.size ≤ q ∧ q < w5.heap.size)) XC.out (fun _ h => .inl h) (fun q hq => hq))
            have OP5 := Lib.hid (XC.out.heap OP.out (fun h => h))
            have N5 := Lib.hid n5
            have HZ5 := Lib.hid x5.size
            obtain ⟨ga, gc, rfl, hga⟩ := b5.form
            have B5 := Lib.hid b5
            clear b5 x5 n5 oc2 hga
            go_wp2_with fail
            refine (lo_append S5.out.lo _ dsk (B5.out.read HDBY.out.1 (fun g hg hz => S5.out.zp g hz ?_))).mono ?_
            · rcases N5.out g hg with h | h
              · exact .inr ⟨by have := HZB.out; omega, B5.out.lt hg⟩
              · exact .inr ⟨by have := HZB.out; omega, B5.out.lt hg⟩
            rintro e w6 ⟨Z6, rfl, lo6, g6⟩
            have S6 := Lib.hid (S5.out.left lo6 g6)
            have B6 := Lib.hid (B5.out.chg g6.chg (fun g hg hz => S5.out.zp g hz (by
              rcases N5.out g hg with h | h
              · exact .inr ⟨by have := HZB.out; omega, B5.out.lt hg⟩
              · exact .inr ⟨by have := HZB.out; omega, B5.out.lt hg⟩)))
            clear lo6 g6
            have oc2 := cell_of_row w6 wq.heap.size 2 _ _ _ (S6.out.heap OP5.out (.inl (.inr rfl)))
            go_wp2_with fail
            refine (ro_append S6.out.ro _ dsk (S6.out.byt HDBY.out S6.out.yb) (by have := HDL.out; omega)).mono ?_
            rintro e w7 ⟨Y7, rfl, ro7, g7⟩
            have S7 := Lib.hid (S6.out.right ro7 g7)
            have B7 := Lib.hid (B6.out.chg g7.chg (fun g hg hz => S6.out.yp g hz (by
              rcases N5.out g hg with h | h
              · exact .inr ⟨by have := HZB.out; omega, B5.out.lt hg⟩
              · exact .inr ⟨by have := HZB.out; omega, B5.out.lt hg⟩)))
            clear ro7 g7 oc2
            have hst0 : ∀ g, ga = some ⟨g, 0, none⟩ → ∃ cur, w7.heap[g]? = some (.cells cur 5 (0, 0)) := fun g hg => ownsRow_heap B7.out.row (by rw [hg]; rfl)
            have HL5 := Lib.hid (HGET.out.1)
            go_wp2
            go_loopg [19] dsk.length (fun gn s19 wr => ∃ j : Nat, j + gn = dsk.length ∧ s19 = .int .i64 j ∧ Chg (fun q => (Value.slice ga dsk.length gc).ownBlock = some q) w7 wr ∧ (0 < dsk.length → ∃ g cur, ga = some ⟨g, 0, none⟩ ∧ wr.heap[g]? = some (.cells cur 5 (0, 0)) ∧ dsk.length ≤ cur.size))
            case atStart =>
              refine ⟨0, Nat.zero_add _, rfl, Chg.refl _ _, fun hp => ?_⟩
              obtain ⟨ao, cap, he, hh⟩ := B7.out.form
              obtain ⟨g, hg1, hg2, hg3⟩ := hh hp
              obtain ⟨cur, hcur⟩ := ownsRow_heap B7.out.row hg2
              have hga : ga = some ⟨g, 0, none⟩ := by
                injection he with e1 _ _
                rw [e1, hg1]
              refine ⟨g, cur, hga, hcur, ?_⟩
              have := hg3 (dsk.length - 1) (by omega)
              rw [cell_of_row w7 g _ _ _ _ hcur] at this
              have := (Array.getElem?_eq_some_iff.1 this).1
              omega
            case round =>
              obtain ⟨j, hj, rfl, hch, hcur⟩ := hrel
              have HCH := Lib.hid hch; have HCUR := Lib.hid hcur
              clear hch hcur
              by_cases hj1 : j < dsk.length
              · obtain ⟨g, cur, rfl, hg, hsz⟩ := HCUR.out (by omega)
                obtain ⟨cv, hcl⟩ : ∃ cv, wr.cell? ⟨g, j, none⟩ = some cv := by
                  refine ⟨cur[j]'(by omega), ?_⟩
                  rw [cell_of_row wr g j _ _ _ hg]
                  exact Array.getElem?_eq_getElem (by omega)
                have hfr := frozen_of_row wr g j _ _ hg
                have HG := Lib.hid hg; have HSZ := Lib.hid hsz
                clear hg hsz
                have hdl2 := HDL.out
                go_wp2
                go_roundg (gk - 1)
                case measure => omega
                case rel =>
                  refine ⟨j + 1, by omega, by go_num, HCH.out.setCell (p := ⟨g, j, none⟩) (.inl rfl) _, fun _ => ⟨g, _, rfl, hset_eq HG.out, ?_⟩⟩
                  have := HSZ.out
                  simpa using this
              · go_wp2
                go_meet
                refine ⟨_, _, _, _, _, w5, rfl, rfl, S7.out.other HCH.out (fun q hq => ?_) (fun q hq => .inl hq) (fun q hq => .inl hq), ?_, I0.out.append dsk⟩
                · have hp5 : (q < w.heap.size ∨ q = wq.heap.size) ∨ (W1.heap.size ≤ q ∧ q < w5.heap.size) := by
                    rcases N5.out q hq with h | h
                    · exact .inr ⟨by have := HZB.out; omega, B5.out.lt hq⟩
                    · exact .inr ⟨by have := HZB.out; omega, B5.out.lt hq⟩
                  have hz1 := HZ1.out
                  have hzb := HZB.out
                  have hzw := S1.out.all.size
                  refine ⟨?_, ?_, fun hz => S7.out.zp q hz hp5, fun hz => S7.out.yp q hz hp5⟩
                  · rcases N5.out q hq with h | h <;> omega
                  · rcases N5.out q hq with h | h <;> omega
                · refine (HCH.out.keep wq.heap.size ?_ (fun hq => ?_)).trans (S7.out.heap OP5.out (.inl (.inr rfl)))
                  · exact Nat.lt_of_lt_of_le (lt_of_heap OP5.out) S7.out.kept.size
                  · have hz1 := HZ1.out
                    have hzb := HZB.out
                    rcases N5.out _ hq with h | h <;> omega
          · by_cases h2 : Kk = 2
            · as_aux_lemma =>
              subst h2
              go_wp2_with fail
              refine (lo_flush S1.out.lo I0.out.room hwl).mono ?_
              rintro e w6 ⟨Z6, rfl, lo6, g6⟩
              have S6 := Lib.hid (S1.out.left lo6 g6)
              clear lo6 g6
              go_wp2_with fail
              refine (ro_flush S6.out.ro I0.out.room hwl).mono ?_
              rintro e w7 ⟨Y7, rfl, ro7, g7⟩
              have S7 := Lib.hid (S6.out.right ro7 g7)
              clear ro7 g7
              go_wp2
              go_meet
              exact ⟨_, _, _, _, _, W1, rfl, rfl, S7.out, S7.out.heap OP.out (.inr rfl), I0.out.flush S1.out.bytes⟩
            · by_cases h3 : Kk = 3
              · as_aux_lemma =>
                subst h3
                go_wp2_with fail
                refine (lo_reset S1.out.lo I0.out.room hwl).mono ?_
                rintro e w6 ⟨Z6, rfl, lo6, g6⟩
                have S6 := Lib.hid (S1.out.left lo6 g6)
                clear lo6 g6
                go_wp2_with fail
                refine (ro_reset S6.out.ro I0.out.room hwl).mono ?_
                rintro e w7 ⟨Y7, rfl, ro7, g7⟩
                have S7 := Lib.hid (S6.out.right ro7 g7)
                clear ro7 g7
                go_wp2
                go_meet
                exact ⟨_, _, _, _, _, W1, rfl, rfl, S7.out, S7.out.heap OP.out (.inr rfl), I0.out.reset⟩
              · by_cases h4 : Kk = 4
                · as_aux_lemma =>
                  subst h4
                  have oc1 := OC1.out
                  go_wp2_with fail
                  refine (lo_arm S1.out.lo Nk HNk.out).mono ?_
                  rintro e w6 ⟨Z6, rfl, lo6, g6⟩
                  have S6 := Lib.hid (S1.out.left lo6 g6)
                  clear lo6 g6 oc1
                  have oc1 := cell_of_row w6 wq.heap.size 1 _ _ _ (S6.out.heap OP.out (.inr rfl))
                  go_wp2_with fail
                  refine (ro_arm S6.out.ro Nk HNk.out).mono ?_
                  rintro e w7 ⟨Y7, rfl, ro7, g7⟩
                  have S7 := Lib.hid (S6.out.right ro7 g7)
                  clear ro7 g7 oc1
                  go_wp2
                  go_meet
                  exact ⟨0, _, _, _, _, W1, rfl, rfl, S7.out, S7.out.heap OP.out (.inr rfl), I0.out.arm Nk⟩
                · by_cases h6 : Kk = 6
                  · as_aux_lemma =>
                    subst h6
                    have oc1 := OC1.out
                    have oc2 := OC2.out
                    go_wp2_with fail
                    refine wp_region_lex (fun w' => w'.cell? ⟨wq.heap.size, 1, none⟩ = some (.int .i64 Nk) ∧ w'.cell? ⟨wq.heap.size, 2, none⟩ = some (.slice dak dlk dck)) 99 [5, 6] [0, 1, 2, 3, 4, 5, 6, 7] (by kernel_rfl) (by kernel_rfl) ⟨oc1, oc2⟩ ?_
                    clear oc1 oc2
                    iterate 5
                      refine' lex_free (v := _) rfl rfl rfl ?_ (fun _ _ _ h => h) ?_
                      rotate_left
                      · rintro W ⟨hW1, hW2⟩
                        go_simp
                        with_reducible rfl
                      try simp only [Act.put, List.setIfInBounds_toArray, List.set_cons_zero, List.set_cons_succ]
                    obtain ⟨W2, hW2⟩ : ∃ W2, W2 = W1.drew := ⟨_, rfl⟩
                    have S2 := Lib.hid (S1.out.quiet (w' := W2) (by rw [hW2]; exact (Chg.refl _ _).drew))
                    rw [← hW2]
                    clear hW2
                    refine lex_op rfl rfl rfl (fun K hK => ?_)
                    go_simp
                    refine (sector_any _ Z dsk W2 (S2.out.byt HDk.out.1 S2.out.zb)).mono ?_
                    rintro e w3 ⟨rfl, x3⟩
                    have S3 := Lib.hid (S2.out.quiet x3)
                    clear x3
                    have h1 := S3.out.heap OP.out (.inr rfl)
                    refine hK _ _ (fun _ => ⟨cell_of_row w3 wq.heap.size 1 _ _ _ h1, cell_of_row w3 wq.heap.size 2 _ _ _ h1⟩) ?_
                    clear hK K
                    try simp only [Act.put, List.setIfInBounds_toArray, List.set_cons_zero, List.set_cons_succ]
                    clear h1
                    refine lex_op rfl rfl rfl (fun K hK => ?_)
                    go_simp
                    refine (lo_write S3.out.lo Nk _ (padTo_len (by rw [List.length_take]; omega)) (by omega)).mono ?_
                    rintro e w4 ⟨Z4, rfl, lo4, g4⟩
                    have S4 := Lib.hid (S3.out.left lo4 g4)
                    clear lo4 g4
                    have h1 := S4.out.heap OP.out (.inr rfl)
                    refine hK _ _ (fun _ => ⟨cell_of_row w4 wq.heap.size 1 _ _ _ h1, cell_of_row w4 wq.heap.size 2 _ _ _ h1⟩) ?_
                    clear hK K
                    try simp only [Act.put, List.setIfInBounds_toArray, List.set_cons_zero, List.set_cons_succ]
                    iterate 1
                      refine' lex_free (v := _) rfl rfl rfl ?_ (fun _ _ _ h => h) ?_
                      rotate_left
                      · rintro W ⟨hW1, hW2⟩
                        go_simp
                        with_reducible rfl
                      try simp only [Act.put, List.setIfInBounds_toArray, List.set_cons_zero, List.set_cons_succ]
                    refine lex_nil ?_
                    have oc1 := cell_of_row w4 wq.heap.size 1 _ _ _ h1
                    have oc2 := cell_of_row w4 wq.heap.size 2 _ _ _ h1
                    clear h1 S2 S3
                    go_wp2_with fail
                    refine wp_region_lex (fun w' => w'.cell? ⟨wq.heap.size, 1, none⟩ = some (.int .i64 Nk) ∧ w'.cell? ⟨wq.heap.size, 2, none⟩ = some (.slice dak dlk dck)) 99 [5, 6] [0, 1, 2, 3, 4, 5, 6, 7] (by kernel_rfl) (by kernel_rfl) ⟨oc1, oc2⟩ ?_
                    clear oc1 oc2
                    iterate 5
                      refine' lex_free (v := _) rfl rfl rfl ?_ (fun _ _ _ h => h) ?_
                      rotate_left
                      · rintro W ⟨hW1, hW2⟩
                        go_simp
                        with_reducible rfl
                      try simp only [Act.put, List.setIfInBounds_toArray, List.set_cons_zero, List.set_cons_succ]
                    obtain ⟨W5, hW5⟩ : ∃ W5, W5 = w4.drew := ⟨_, rfl⟩
                    have S5 := Lib.hid (S4.out.quiet (w' := W5) (by rw [hW5]; exact (Chg.refl _ _).drew))
                    rw [← hW5]
                    clear hW5
                    refine lex_op rfl rfl rfl (fun K hK => ?_)
                    go_simp
                    refine (sector_any _ Y dsk W5 (S5.out.byt HDk.out.1 S5.out.yb)).mono ?_
                    rintro e w6 ⟨rfl, x6⟩
                    have S6 := Lib.hid (S5.out.quiet x6)
                    clear x6
                    have h1 := S6.out.heap OP.out (.inr rfl)
                    refine hK _ _ (fun _ => ⟨cell_of_row w6 wq.heap.size 1 _ _ _ h1, cell_of_row w6 wq.heap.size 2 _ _ _ h1⟩) ?_
                    clear hK K
                    try simp only [Act.put, List.setIfInBounds_toArray, List.set_cons_zero, List.set_cons_succ]
                    clear h1
                    refine lex_op rfl rfl rfl (fun K hK => ?_)
                    go_simp
                    refine (ro_write S6.out.ro Nk _ (padTo_len (by rw [List.length_take]; omega)) (by omega)).mono ?_
                    rintro e w7 ⟨Y7, rfl, ro7, g7⟩
                    have S7 := Lib.hid (S6.out.right ro7 g7)
                    clear ro7 g7
                    have h1 := S7.out.heap OP.out (.inr rfl)
                    refine hK _ _ (fun _ => ⟨cell_of_row w7 wq.heap.size 1 _ _ _ h1, cell_of_row w7 wq.heap.size 2 _ _ _ h1⟩) ?_
                    clear hK K
                    try simp only [Act.put, List.setIfInBounds_toArray, List.set_cons_zero, List.set_cons_succ]
                    iterate 1
                      refine' lex_free (v := _) rfl rfl rfl ?_ (fun _ _ _ h => h) ?_
                      rotate_left
                      · rintro W ⟨hW1, hW2⟩
                        go_simp
                        with_reducible rfl
                      try simp only [Act.put, List.setIfInBounds_toArray, List.set_cons_zero, List.set_cons_succ]
                    refine lex_nil ?_
                    clear h1
                    go_wp2
                    go_meet
                    exact ⟨_, _, _, _, _, W1, rfl, rfl, S7.out, S7.out.heap OP.out (.inr rfl), I0.out.write Nk (bytes_pad (fun x hx => HDk.out.1.1 x (List.mem_of_mem_take hx)))⟩
                  · as_aux_lemma =>
                    go_wp2
                    go_meet
                    exact ⟨0, _, _, _, _, W1, rfl, rfl, S1.out, OP.out, I0.out.more⟩
        case rest =>
          obtain ⟨a, D1, o1, Z1, Y1, W2, rfl, rfl, hst, hop, hiv⟩ := hcut
          have S2 := Lib.hid hst.here; have OP2 := Lib.hid hop; have I2 := Lib.hid hiv
          clear hst hop hiv S1 I0 OP OC0 OC1 OC2 OC3 hwl
          have oc0 := cell_of_row wc wq.heap.size 0 _ _ _ OP2.out
          have oc3 := cell_of_row wc wq.heap.size 3 _ _ _ OP2.out
          have hwl : D1.wait.length < 2800000000000 := by have := I2.out.wait; split at this <;> omega
          go_upto_if 136 with (fail)
          go_cut [] (fun wx => ∃ (D2 : Dsk) (o2 : Option Lg) (Z2 Y2 : Nat → Prop) (lv mv : Value) (W : World), St w W (fun q => q < w.heap.size ∨ q = wq.heap.size) Z2 Y2 wx d r D2 D2 o2 o2 lv mv ∧ wx.heap[wq.heap.size]? = some (.cells #[.int .i64 Kk, .int .i64 Nk, .slice dak dlk dck, .slice kak klk kck] 82 (0, 0)) ∧ InvS D2 o2 (k + 1) ∧ (Kk ≠ 5 → lv = .pointer lp ∧ mv = .pointer mp))
          case first =>
            by_cases h5 : Kk = 5
            · as_aux_lemma =>
              subst h5
              go_wp2_with fail
              refine (zd_restart S2.out.lo.zd _ ksk (S2.out.bools HBk.out S2.out.zb) (by omega)).mono ?_
              rintro e w6 ⟨Z6, rfl, d6, g6⟩
              have S6 := Lib.hid (S2.out.left (lv' := .pointer none) (o' := none) ⟨rfl, d6⟩ g6)
              clear d6 g6 oc0 oc3
              have oc3 := cell_of_row w6 wq.heap.size 3 _ _ _ (S6.out.heap OP2.out (.inr rfl))
              go_wp2_with fail
              refine (rd_restart S6.out.ro.rd _ ksk (S6.out.bools HBk.out S6.out.yb)).mono ?_
              rintro e w7 ⟨Y7, rfl, d7, g7⟩
              have S7 := Lib.hid (S6.out.right (mv' := .pointer none) (q' := none) ⟨rfl, d7⟩ g7)
              clear d7 g7 oc3
              go_wp2
              go_meet
              exact ⟨_, none, _, _, _, _, _, S7.out, S7.out.heap OP2.out (.inr rfl), I2.out.restart S2.out.ro.rd.synced ksk _, fun h => absurd rfl h⟩
            · as_aux_lemma =>
              go_wp2
              go_meet
              exact ⟨D1, o1, Z1, Y1, _, _, _, S2.out, OP2.out, I2.out, fun _ => ⟨rfl, rfl⟩⟩
          case rest =>
            obtain ⟨D2, o2, Z2, Y2, lv, mv, W3, hst, hop, hiv, hlv⟩ := hcut
            have S3 := Lib.hid hst.here; have OP3 := Lib.hid hop; have I3 := Lib.hid hiv; have HLV := Lib.hid hlv
            clear hst hop hiv hlv S2 OP2 I2 oc0 oc3 hwl
            have oc0 := cell_of_row wc wq.heap.size 0 _ _ _ OP3.out
            go_upto_region 42 with (fail)
            go_cut [152] (fun s152 wx => s152 = .bool (decide (Kk = 5 ∨ Kk = 7)) ∧ wx = wc)
            case first =>
             as_aux_lemma =>
              by_cases h5 : Kk = 5
              · subst h5
                go_wp2
                go_meet
                exact ⟨rfl, rfl⟩
              · by_cases h7 : Kk = 7
                · subst h7
                  go_wp2
                  go_meet
                  exact ⟨rfl, rfl⟩
                · go_wp2
                  go_meet
                  exact ⟨by simp [h5, h7], rfl⟩
            case rest =>
              obtain ⟨rfl, rfl⟩ := hcut
              go_upto_if 152 with (fail)
              go_cut [8, 11, 16, 17] (fun s8 s11 s16 s17 wx => ∃ (a : Int) (o3 : Option Lg) (Z3 Y3 : Nat → Prop) (lq mq : Option Addr) (W : World), s8 = .pointer lq ∧ s11 = .pointer mq ∧ s16 = .int .i64 a ∧ s17 = .int .i64 a ∧ lq.isNone = mq.isNone ∧ St w W (fun q => q < w.heap.size ∨ q = wq.heap.size) Z3 Y3 wx d r D2 D2 o3 o3 (.pointer lq) (.pointer mq) ∧ InvS D2 o3 (k + 1))
              case first =>
                clear oc0
                by_cases h57 : Kk = 5 ∨ Kk = 7
                · as_aux_lemma =>
                  rw [decide_eq_true h57]
                  clear HLV h57
                  go_wp2_with fail
                  refine (lo_open S3.out.lo.zd I3.out.byt.1).mono ?_
                  rintro e w4 ⟨lv4, pv4, Z4, rfl, lo4, rp4, g4, x4⟩
                  obtain ⟨lq, rfl, hlq⟩ := lo4.opt
                  have S4 := Lib.hid (S3.out.left lo4 g4)
                  have RP4 := Lib.hid rp4; have HLQ := Lib.hid hlq
                  clear lo4 rp4 g4 x4 hlq
                  go_wp2_with fail
                  refine (ro_open S4.out.ro.rd I3.out.byt.1).mono ?_
                  rintro e w5 ⟨mv5, qv5, Y5, rfl, ro5, rq5, g5, x5⟩
                  obtain ⟨mq, rfl, hmq⟩ := ro5.opt
                  have S5 := Lib.hid (S4.out.right ro5 g5)
                  have RQ5 := Lib.hid rq5
                  have RP5 := Lib.hid (RP4.out.grow ⟨x5.mono (fun _ h => h.elim), fun k hk => .inl hk⟩)
                  have hlm5 : lq.isNone = mq.isNone := HLQ.out.trans hmq.symm
                  clear hmq HLQ ro5 rq5 g5 x5 RP4 S4
                  go_upto_if 175 with (go_at_call 37; refine (same_any _ _ _ _ _ _ _ RP5.out RQ5.out).mono ?_; rintro e w6 ⟨rfl, x6⟩)
                  have S6 := Lib.hid (S5.out.quiet x6)
                  clear x6
                  go_wp2
                  go_meet
                  exact ⟨_, _, _, _, lq, mq, _, rfl, rfl, rfl, rfl, hlm5, S6.out, I3.out.openedK S6.out.lo.zd.h64⟩
                · as_aux_lemma =>
                  rw [decide_eq_false h57]
                  obtain ⟨hl, hm⟩ := HLV.out (fun h => h57 (.inl h))
                  subst hl
                  subst hm
                  go_wp2
                  go_meet
                  exact ⟨a, o2, Z2, Y2, lp, mp, _, rfl, rfl, rfl, rfl, HLM.out, S3.out, I3.out⟩
              case rest =>
                obtain ⟨a3, o3, Z3, Y3, lq, mq, W4, rfl, rfl, rfl, rfl, hlq, hst, hiv⟩ := hcut
                have S4 := Lib.hid hst.here; have I4 := Lib.hid hiv; have HLQ := Lib.hid hlq
                clear hst hiv hlq HLV S3 I3 OP3 oc0
                go_upto_region 47 with (fail)
                go_cut [230] (fun s wx => s = .bool false ∧ wx = wc.drew)
                case first =>
                 as_aux_lemma =>
                  obtain ⟨W5, hW5⟩ : ∃ W5, W5 = wc.drew := ⟨_, rfl⟩
                  have S5 := Lib.hid (S4.out.quiet (w' := W5) (by rw [hW5]; exact (Chg.refl _ _).drew))
                  have HW5 := Lib.hid hW5
                  have d3 := S5.out.ro.rd.cells.2
                  cases o3 with
                  | none =>
                    obtain ⟨hl, _⟩ := S5.out.lo
                    obtain ⟨hm, _⟩ := S5.out.ro
                    have hl2 : lq = none := by injection hl
                    have hm2 : mq = none := by injection hm
                    subst hl2
                    subst hm2
                    clear hl hm
                    clear hW5
                    go_wp2_with fail
                    refine wp_region_lex (fun W' => W' = W5) 99 [5, 17, 21, 31, 39] [0, 1, 2, 3, 4, 6, 7, 8, 9, 5, 10, 11, 12, 13, 14, 15, 16, 17, 18, 19, 20, 21, 22, 23, 24, 25, 26, 27, 28, 29, 30, 32, 33, 34, 35, 31, 36, 37, 38, 40, 41, 42, 43, 44, 45, 46, 47, 48, 49, 50, 39, 51, 52, 53, 54] (by kernel_rfl) (by kernel_rfl) HW5.out.symm ?_
                    rw [← HW5.out]
                    iterate 4
                      refine' lex_free (v := _) rfl rfl rfl ?_ (fun _ _ _ h => h) ?_
                      rotate_left
                      · rintro W rfl
                        go_simp
                        with_reducible rfl
                      try simp only [Act.put, List.setIfInBounds_toArray, List.set_cons_zero, List.set_cons_succ]
                    iterate 5
                      refine' lex_freeG (v := _) rfl rfl rfl ?_ (fun _ _ _ h => h) ?_
                      rotate_left
                      · rintro W rfl
                        go_simp
                        with_reducible rfl
                      try simp only [Act.put, List.setIfInBounds_toArray, List.set_cons_zero, List.set_cons_succ]
                    refine lex_opG rfl rfl rfl (fun K hK => ?_)
                    go_simp
                    refine (zd_down S5.out.lo.zd).mono ?_
                    rintro e w6 ⟨rfl, rfl⟩
                    refine hK _ _ (fun _ => rfl) ?_
                    clear hK K
                    try simp only [Act.put, List.setIfInBounds_toArray, List.set_cons_zero, List.set_cons_succ]
                    iterate 1
                      refine' lex_freeG (v := _) rfl rfl rfl ?_ (fun _ _ _ h => h) ?_
                      rotate_left
                      · rintro W rfl
                        go_simp
                        with_reducible rfl
                      try simp only [Act.put, List.setIfInBounds_toArray, List.set_cons_zero, List.set_cons_succ]
                    iterate 2
                      refine' lex_free (v := _) rfl rfl rfl ?_ (fun _ _ _ h => h) ?_
                      rotate_left
                      · rintro W rfl
                        go_simp
                        with_reducible rfl
                      try simp only [Act.put, List.setIfInBounds_toArray, List.set_cons_zero, List.set_cons_succ]
                    iterate 3
                      refine' lex_freeG (v := _) rfl rfl rfl ?_ (fun _ _ _ h => h) ?_
                      rotate_left
                      · rintro W rfl
                        go_simp
                        with_reducible rfl
                      try simp only [Act.put, List.setIfInBounds_toArray, List.set_cons_zero, List.set_cons_succ]
                    iterate 1
                      refine' lex_freeG (v := _) rfl rfl rfl ?_ (fun _ _ _ h => h) ?_
                      rotate_left
                      · rintro W rfl
                        go_simp
                        with_reducible rfl
                      try simp only [Act.put, List.setIfInBounds_toArray, List.set_cons_zero, List.set_cons_succ]
                    refine lex_opG rfl rfl rfl (fun K hK => ?_)
                    go_simp
                    refine (waitingL_nil W5).mono ?_
                    rintro e w6 ⟨rfl, rfl⟩
                    refine hK _ _ (fun _ => rfl) ?_
                    clear hK K
                    try simp only [Act.put, List.setIfInBounds_toArray, List.set_cons_zero, List.set_cons_succ]
                    iterate 3
                      refine' lex_freeG (v := _) rfl rfl rfl ?_ (fun _ _ _ h => h) ?_
                      rotate_left
                      · rintro W rfl
                        go_simp
                        with_reducible rfl
                      try simp only [Act.put, List.setIfInBounds_toArray, List.set_cons_zero, List.set_cons_succ]
                    refine lex_opG rfl rfl rfl (fun K hK => ?_)
                    go_simp
                    refine (used_nil W5).mono ?_
                    rintro e w6 ⟨rfl, rfl⟩
                    refine hK _ _ (fun _ => rfl) ?_
                    clear hK K
                    try simp only [Act.put, List.setIfInBounds_toArray, List.set_cons_zero, List.set_cons_succ]
                    iterate 3
                      refine' lex_freeG (v := _) rfl rfl rfl ?_ (fun _ _ _ h => h) ?_
                      rotate_left
                      · rintro W rfl
                        go_simp
                        with_reducible rfl
                      try simp only [Act.put, List.setIfInBounds_toArray, List.set_cons_zero, List.set_cons_succ]
                    iterate 2
                      refine' lex_free (v := _) rfl rfl rfl ?_ (fun _ _ _ h => h) ?_
                      rotate_left
                      · rintro W rfl
                        go_simp
                        with_reducible rfl
                      try simp only [Act.put, List.setIfInBounds_toArray, List.set_cons_zero, List.set_cons_succ]
                    iterate 3
                      refine' lex_freeG (v := _) rfl rfl rfl ?_ (fun _ _ _ h => h) ?_
                      rotate_left
                      · rintro W rfl
                        go_simp
                        with_reducible rfl
                      try simp only [Act.put, List.setIfInBounds_toArray, List.set_cons_zero, List.set_cons_succ]
                    iterate 5
                      refine lex_skip rfl rfl rfl (fun _ _ _ h => h) ?_
                      try simp only [Act.put, List.setIfInBounds_toArray, List.set_cons_zero, List.set_cons_succ]
                    refine lex_skipE rfl rfl rfl rfl ?_
                    try simp only [Act.put, List.setIfInBounds_toArray, List.set_cons_zero, List.set_cons_succ]
                    iterate 14
                      refine lex_skip rfl rfl rfl (fun _ _ _ h => h) ?_
                      try simp only [Act.put, List.setIfInBounds_toArray, List.set_cons_zero, List.set_cons_succ]
                    refine lex_skipE rfl rfl rfl rfl ?_
                    try simp only [Act.put, List.setIfInBounds_toArray, List.set_cons_zero, List.set_cons_succ]
                    iterate 2
                      refine lex_skip rfl rfl rfl (fun _ _ _ h => h) ?_
                      try simp only [Act.put, List.setIfInBounds_toArray, List.set_cons_zero, List.set_cons_succ]
                    iterate 1
                      refine' lex_freeG (v := _) rfl rfl rfl ?_ (fun _ _ _ h => h) ?_
                      rotate_left
                      · rintro W rfl
                        go_simp
                        with_reducible rfl
                      try simp only [Act.put, List.setIfInBounds_toArray, List.set_cons_zero, List.set_cons_succ]
                    iterate 1
                      refine' lex_free (v := _) rfl rfl rfl ?_ (fun _ _ _ h => h) ?_
                      rotate_left
                      · rintro W rfl
                        go_simp
                        with_reducible rfl
                      try simp only [Act.put, List.setIfInBounds_toArray, List.set_cons_zero, List.set_cons_succ]
                    refine lex_nil ?_
                    go_wp2
                    go_meet
                    exact ⟨rfl, HW5.out⟩
                  | some L =>
                    obtain ⟨m, ta, tn, tc, wa, wn, wc', hm, c2, c3, c4, hsum⟩ := S5.out.ro.read
                    obtain ⟨l, hl, hzn⟩ := S5.out.lo
                    have hl2 : lq = some ⟨l, 0, none⟩ := by injection hl
                    have hm2 : mq = some ⟨m, 0, none⟩ := by injection hm
                    subst hl2
                    subst hm2
                    have hus : Calls Try.prog 33 #[.pointer (some ⟨l, 0, none⟩)] W5 fun e w' => e = .returned (.int .i64 ((tn : Int) + wn)) ∧ W5 = w' := by
                      rw [hsum]
                      exact zn_used hzn
                    have hwt := zn_waiting hzn
                    have hrm := I4.out.room L rfl
                    have hs40 := I4.out.size
                    have HUS := Lib.hid hus; have HWT := Lib.hid hwt
                    have hb1 : (tn : Int) + wn ≤ 2560 := by omega
                    generalize L.wait = LW at *
                    clear hl hm hW5 hus hwt hzn hrm hs40 hsum
                    go_wp2_with fail
                    refine wp_region_lex (fun W' => W' = W5) 99 [5, 17, 21, 31, 39] [0, 1, 2, 3, 4, 6, 7, 8, 9, 5, 10, 11, 12, 13, 14, 15, 16, 17, 18, 19, 20, 21, 22, 23, 24, 25, 26, 27, 28, 29, 30, 32, 33, 34, 35, 31, 36, 37, 38, 40, 41, 42, 43, 44, 45, 46, 47, 48, 49, 50, 39, 51, 52, 53, 54] (by kernel_rfl) (by kernel_rfl) HW5.out.symm ?_
                    rw [← HW5.out]
                    iterate 4
                      refine' lex_free (v := _) rfl rfl rfl ?_ (fun _ _ _ h => h) ?_
                      rotate_left
                      · rintro W rfl
                        go_simp
                        with_reducible rfl
                      try simp only [Act.put, List.setIfInBounds_toArray, List.set_cons_zero, List.set_cons_succ]
                    iterate 5
                      refine' lex_freeG (v := _) rfl rfl rfl ?_ (fun _ _ _ h => h) ?_
                      rotate_left
                      · rintro W rfl
                        go_simp
                        with_reducible rfl
                      try simp only [Act.put, List.setIfInBounds_toArray, List.set_cons_zero, List.set_cons_succ]
                    refine lex_opG rfl rfl rfl (fun K hK => ?_)
                    go_simp
                    refine (zd_down S5.out.lo.zd).mono ?_
                    rintro e w6 ⟨rfl, rfl⟩
                    refine hK _ _ (fun _ => rfl) ?_
                    clear hK K
                    try simp only [Act.put, List.setIfInBounds_toArray, List.set_cons_zero, List.set_cons_succ]
                    iterate 1
                      refine' lex_freeG (v := _) rfl rfl rfl ?_ (fun _ _ _ h => h) ?_
                      rotate_left
                      · rintro W rfl
                        go_simp
                        with_reducible rfl
                      try simp only [Act.put, List.setIfInBounds_toArray, List.set_cons_zero, List.set_cons_succ]
                    iterate 2
                      refine' lex_free (v := _) rfl rfl rfl ?_ (fun _ _ _ h => h) ?_
                      rotate_left
                      · rintro W rfl
                        go_simp
                        with_reducible rfl
                      try simp only [Act.put, List.setIfInBounds_toArray, List.set_cons_zero, List.set_cons_succ]
                    iterate 3
                      refine' lex_freeG (v := _) rfl rfl rfl ?_ (fun _ _ _ h => h) ?_
                      rotate_left
                      · rintro W rfl
                        go_simp
                        with_reducible rfl
                      try simp only [Act.put, List.setIfInBounds_toArray, List.set_cons_zero, List.set_cons_succ]
                    iterate 1
                      refine lex_skip rfl rfl rfl (fun _ _ _ h => h) ?_
                      try simp only [Act.put, List.setIfInBounds_toArray, List.set_cons_zero, List.set_cons_succ]
                    refine lex_skipE rfl rfl rfl rfl ?_
                    try simp only [Act.put, List.setIfInBounds_toArray, List.set_cons_zero, List.set_cons_succ]
                    iterate 3
                      refine lex_skip rfl rfl rfl (fun _ _ _ h => h) ?_
                      try simp only [Act.put, List.setIfInBounds_toArray, List.set_cons_zero, List.set_cons_succ]
                    refine lex_skipE rfl rfl rfl rfl ?_
                    try simp only [Act.put, List.setIfInBounds_toArray, List.set_cons_zero, List.set_cons_succ]
                    iterate 2
                      refine lex_skip rfl rfl rfl (fun _ _ _ h => h) ?_
                      try simp only [Act.put, List.setIfInBounds_toArray, List.set_cons_zero, List.set_cons_succ]
                    iterate 1
                      refine' lex_freeG (v := _) rfl rfl rfl ?_ (fun _ _ _ h => h) ?_
                      rotate_left
                      · rintro W rfl
                        go_simp
                        with_reducible rfl
                      try simp only [Act.put, List.setIfInBounds_toArray, List.set_cons_zero, List.set_cons_succ]
                    iterate 2
                      refine' lex_free (v := _) rfl rfl rfl ?_ (fun _ _ _ h => h) ?_
                      rotate_left
                      · rintro W rfl
                        go_simp
                        with_reducible rfl
                      try simp only [Act.put, List.setIfInBounds_toArray, List.set_cons_zero, List.set_cons_succ]
                    iterate 3
                      refine' lex_freeG (v := _) rfl rfl rfl ?_ (fun _ _ _ h => h) ?_
                      rotate_left
                      · rintro W rfl
                        go_simp
                        with_reducible rfl
                      try simp only [Act.put, List.setIfInBounds_toArray, List.set_cons_zero, List.set_cons_succ]
                    iterate 5
                      refine' lex_freeG (v := _) rfl rfl rfl ?_ (fun _ _ _ h => h) ?_
                      rotate_left
                      · rintro W rfl
                        go_simp
                        with_reducible rfl
                      try simp only [Act.put, List.setIfInBounds_toArray, List.set_cons_zero, List.set_cons_succ]
                    refine lex_opG rfl rfl rfl (fun K hK => ?_)
                    go_simp
                    refine HWT.out.mono ?_
                    rintro e w6 ⟨rfl, rfl⟩
                    refine hK _ _ (fun _ => rfl) ?_
                    clear hK K
                    try simp only [Act.put, List.setIfInBounds_toArray, List.set_cons_zero, List.set_cons_succ]
                    iterate 14
                      refine' lex_freeG (v := _) rfl rfl rfl ?_ (fun _ _ _ h => h) ?_
                      rotate_left
                      · rintro W rfl
                        go_simp
                        with_reducible rfl
                      try simp only [Act.put, List.setIfInBounds_toArray, List.set_cons_zero, List.set_cons_succ]
                    refine lex_opG rfl rfl rfl (fun K hK => ?_)
                    go_simp
                    refine HUS.out.mono ?_
                    rintro e w6 ⟨rfl, rfl⟩
                    refine hK _ _ (fun _ => rfl) ?_
                    clear hK K
                    try simp only [Act.put, List.setIfInBounds_toArray, List.set_cons_zero, List.set_cons_succ]
                    iterate 3
                      refine' lex_freeG (v := _) rfl rfl rfl ?_ (fun _ _ _ h => h) ?_
                      rotate_left
                      · rintro W rfl
                        go_simp
                        with_reducible rfl
                      try simp only [Act.put, List.setIfInBounds_toArray, List.set_cons_zero, List.set_cons_succ]
                    iterate 1
                      refine' lex_free (v := _) rfl rfl rfl ?_ (fun _ _ _ h => h) ?_
                      rotate_left
                      · rintro W rfl
                        go_simp
                        with_reducible rfl
                      try simp only [Act.put, List.setIfInBounds_toArray, List.set_cons_zero, List.set_cons_succ]
                    refine lex_nil ?_
                    go_wp2
                    go_meet
                    exact ⟨wrap_sum tn wn hb1, HW5.out⟩
                case rest =>
                  obtain ⟨rfl, rfl⟩ := hcut
                  have S5 := Lib.hid (S4.out.quiet (Chg.refl _ _).drew)
                  go_wp2
                  go_roundg (gk - 1)
                  case measure => omega
                  case rel => exact ⟨k + 1, D2, o3, Z3, Y3, lq, mq, by omega, by go_num, rfl, rfl, HLQ.out, S5.out.down, I4.out⟩
      · as_aux_lemma =>
        obtain rfl : k = len := by omega
        have hwl : D.wait.length < 2800000000000 := by have := I0.out.wait; split at this <;> omega
        have hsz : D.size ≤ 40 := I0.out.size
        have hx0 : Chg (fun _ => False) wq (wq.alloc (.cells #[.bool true] 4)) := (Chg.refl _ wq).alloc _
        have b0 : BoolsAt (wq.alloc (.cells #[.bool true] 4)) Z (.slice (some ⟨wq.heap.size, 0, none⟩) 1 1) [true] := bools_less (bools_lit 0 [] wq [true] (by decide)) (fun x hx => ⟨by omega, by have := S0.out.lo.zd.lt x hx; simp; omega⟩)
        have S1 := Lib.hid (S0.out.quiet hx0); have B0 := Lib.hid b0
        clear hx0 b0 S0 I0 HP HD HB HR
        go_wp2_with fail
        generalize hW1 : wq.alloc (.cells #[.bool true] 4) = W1 at *
        clear hW1
        refine (zd_restart S1.out.lo.zd _ [true] B0.out (by omega)).mono ?_
        rintro e w5 ⟨Z5, rfl, d5, g5⟩
        have S5 := Lib.hid (S1.out.left (lv' := .pointer none) (o' := none) ⟨rfl, d5⟩ g5)
        have hx5 : Chg (fun _ => False) w5 (w5.alloc (.cells #[.bool true] 4)) := (Chg.refl _ w5).alloc _
        have b5 : BoolsAt (w5.alloc (.cells #[.bool true] 4)) Y (.slice (some ⟨w5.heap.size, 0, none⟩) 1 1) [true] := bools_less (bools_lit 0 [] w5 [true] (by decide)) (fun x hx => ⟨by omega, by have := S5.out.ro.rd.lt x hx; simp; omega⟩)
        have S6 := Lib.hid (S5.out.quiet hx5); have B6 := Lib.hid b5
        clear d5 g5 hx5 b5 S1 S5 B0
        go_wp2_with fail
        generalize hW6 : w5.alloc (.cells #[.bool true] 4) = W6 at *
        clear hW6
        refine (rd_restart S6.out.ro.rd _ [true] B6.out).mono ?_
        rintro e w7 ⟨Y7, rfl, d7, g7⟩
        have S7 := Lib.hid (S6.out.right (mv' := .pointer none) (q' := none) ⟨rfl, d7⟩ g7)
        have hsz : (D.restart [true]).size ≤ 40 := hsz
        clear d7 g7 S6 B6
        generalize D.restart [true] = E at *
        go_wp2
        go_loopw [20] (fun s wr => ∃ n : Nat, n ≤ 40 ∧ s = .int .i64 n ∧ Chg (fun _ => False) w7 wr) (fun s _ => 40 - (intOf s).toNat)
        case atStart => exact ⟨0, by omega, rfl, Chg.refl _ _⟩
        case round =>
          obtain ⟨n, hn, rfl, hch⟩ := hrel
          have SX := Lib.hid (S7.out.quiet hch)
          have HCH := Lib.hid hch
          clear hch
          have q0 := SX.out.ro.rd.cells.1
          by_cases hn1 : (n : Int) < E.size
          · have hrl : (E.readR n).length = 64 := by
              unfold Dsk.readR
              split
              · exact SX.out.ok.2.2.2.2.1 n
              · exact sec0_len
            have l1 := (secC_len (E.readR n)).trans hrl
            have i1 := info_secC hrl
            have o1 := secC_one (E.readR n)
            have qq := sec_equal_self (E.readR n) hrl
            obtain ⟨cs, hcs⟩ : ∃ cs, secC (E.readR n) = cs := ⟨_, rfl⟩
            obtain ⟨EE, hEE⟩ : ∃ EE, errOf E.size E.down n = EE := ⟨_, rfl⟩
            rw [hcs] at l1 i1 o1 qq
            have hr1 : secV (E.readR n) = .agg cs.toArray := by rw [← hcs]; rfl
            have L1 := Lib.hid l1; have I1 := Lib.hid i1; have O1 := Lib.hid o1; have Q1 := Lib.hid qq; have HCS := Lib.hid hcs; have HEE := Lib.hid hEE; have HR1 := Lib.hid hr1
            have HZ := Lib.hid info_sec0
            clear hr1 hrl l1 i1 o1 qq hcs hEE
            go_wp2_with fail
            refine (read_any d Z5 E n wr SX.out.lo.zd.disk).mono ?_
            rintro e w8 ⟨rfl, x8⟩
            rw [HR1.out, HEE.out]
            have D2 := Lib.hid (SX.out.quiet (x8.alloc (.cells cs.toArray 31)))
            have X8 := Lib.hid x8
            clear x8 q0
            go_wp2_with (first | (refine wpList_alloc_big rfl 31 64 rfl HZ.out (fun zs hzs => ?_); have HZ1 := Lib.hid hzs; clear hzs) | (refine wpList_store_new rfl 31 _ _ rfl cs _ rfl rfl rfl (L1.out.trans HZ1.out.symm) I1.out O1.out ?_))
            have S2 := Lib.hid (hal_new (w := w8) (o := .cells cs.toArray 31))
            have x8a := Lib.hid (X8.out.alloc (.cells cs.toArray 31))
            generalize hW2 : (w8.alloc (.cells cs.toArray 31)) = W2 at *
            clear hW2
            refine (rread_any r Y7 E n W2 D2.out.ro.rd.disk).mono ?_
            rintro e w9 ⟨rfl, x9⟩
            rw [HCS.out, HEE.out]
            have S3 := Lib.hid (x9.heap S2.out (fun h => h))
            have l3 := lt_of_heap S3.out
            have RA := Lib.hid (range_of_heap (hal_old (w := w9) (o := .cells cs.toArray 31) l3) (range_block S3.out)); have RB := Lib.hid (range_block (hal_new (w := w9) (o := .cells cs.toArray 31)))
            have X9 := Lib.hid ((x8a.out.trans x9 (fun _ h => h.elim)).alloc (.cells cs.toArray 31))
            clear x9
            have q1 := Q1.out
            have qg := sec_guard
            go_wp2_with (first | (refine wpList_alloc_big rfl 31 64 rfl HZ.out (fun zs hzs => ?_); have HZ2 := Lib.hid hzs; clear hzs) | (refine wpList_store_new rfl 31 _ _ rfl cs _ rfl rfl rfl (L1.out.trans HZ2.out.symm) I1.out O1.out ?_) | (refine wpList_load_big rfl 31 _ rfl w8.heap.size 0 rfl cs _ RA.out Try.underlying31 rfl I1.out ?_) | (refine wpList_load_big rfl 31 _ rfl w9.heap.size 0 rfl cs _ RB.out Try.underlying31 rfl I1.out ?_))
            go_roundw
            case rel => exact ⟨n + 1, by omega, by go_num, HCH.out.trans X9.out (fun _ h => h.elim)⟩
            case measure => simp [intOf]; omega
          · go_wp2
            go_ret
            exact ⟨rfl, SX.out.all⟩
end Go.Proofs.Ytihpobpkhhkejaa
