/-
  The walk of MvccRestarts: it returns true, for every script. Condition: it is read as it came in.
-/
import Derived.Test.YtfegpmbgcocldaaMListB
import Derived.Test.YtfegpmbgcocldaaMPlays
set_option autoImplicit false
namespace Go.Proofs.Ytfegpmbgcocldaa
open Go Go.RowKit

/-- the book behind a restart, and who begins first -/
def dV (done : List Int) (i : Nat) : Int := done.getD i 0
theorem dV_in {done : List Int} {u : Int} : isIn (dV done) done.length u = decide (u ∈ done) := by
  rw [Bool.eq_iff_iff, isIn_iff, decide_eq_true_eq]
  constructor
  · rintro ⟨i, hi, rfl⟩
    unfold dV
    rw [List.getD_eq_getElem?_getD, List.getElem?_eq_getElem hi]
    exact List.getElem_mem hi
  · intro h
    obtain ⟨i, hi, he⟩ := List.getElem_of_mem h
    exact ⟨i, hi, by unfold dV; rw [List.getD_eq_getElem?_getD, List.getElem?_eq_getElem hi]; exact he⟩
theorem newOk_done {nx mo : Int} {done : List Int} (n1 : 1 ≤ nx) (m0 : 0 ≤ mo) (m1 : mo ≤ 16777216) (n2 : nx ≤ mo + 1) (h : ∀ u ∈ done, 1 ≤ u ∧ u < nx) : NewOk nx mo (dV done) done.length := by
  refine ⟨n1, m0, m1, n2, fun i hi => ?_⟩
  have hm : dV done i ∈ done := by
    unfold dV
    rw [List.getD_eq_getElem?_getD, List.getElem?_eq_getElem hi]
    exact List.getElem_mem hi
  have := h _ hm
  unfold outOf
  simp; omega
theorem Ints.rd {w : World} {lo n cap : Nat} {ao : Option Addr} {xs : List Int} (h : Ints w lo (.slice ao n cap) xs) : SlRd w ao xs.length 1 (fun i _ => .int .i64 (dV xs i)) := by
  intro hp
  obtain ⟨ao', c', he, hf⟩ := h.form
  simp only [Value.slice.injEq] at he
  obtain ⟨rfl, rfl, rfl⟩ := he
  obtain ⟨g, rfl, hg, hc⟩ := hf hp
  refine ⟨g, 0, rfl, h.lt hg, fun i j hi hj => ?_⟩
  have : j = 0 := by omega
  subst this
  have := hc i hi
  simp only [Nat.mul_one, Nat.zero_add, Nat.add_zero]
  rw [this]
  unfold dV
  rw [List.getD_eq_getElem?_getD, List.getElem?_eq_getElem hi]
  rfl
structure Rest (C : Bk) (nx : Int) (done : List Int) : Prop where
  see : ∀ u, 1 ≤ u → u < nx → C.sees nx u = decide (u ∈ done)
  st : ∀ u, 1 ≤ u → u < nx → C.state u = if u ∈ done then 2 else 3
  conc : ∀ u, 1 ≤ u → u < nx → C.conc nx u = false
  back : ∀ u, 1 ≤ u → u < nx → C.sees u nx = false
  endR : ∀ u, 1 ≤ u → u < nx → C.endR u = 41 ∧ C.endB u 2 = C
  me : C.state nx = 1
  act : C.list 1 = [nx]
  step : C.step = 1
theorem rest_of {nx mo : Int} {done : List Int} (n1 : 1 ≤ nx) (m1 : mo ≤ 16777216) (n2 : nx ≤ mo) (h : ∀ u ∈ done, 1 ≤ u ∧ u < nx) : Rest (Bk.start nx mo (dV done) done.length).begin nx done := by
  obtain ⟨C, hC⟩ : ∃ C, C = (Bk.start nx mo (dV done) done.length).begin := ⟨_, rfl⟩
  have hall : ∀ k, C.all k = if k = nx then some (1, 1, 0) else if k ∈ done then some (2, 0, 0) else none := fun k => by
    rw [hC]
    show eupd (marks (dV done) done.length) nx (1, 0 + 1, 0) k = _
    unfold eupd marks
    rw [dV_in]
    by_cases hk : k = nx
    · rw [if_pos hk, if_pos hk]; rfl
    · rw [if_neg hk, if_neg hk]
      by_cases hd : k ∈ done <;> simp [hd]
  have hnext : C.next = nx + 1 := by rw [hC]; rfl
  have hfirst : C.first = nx := by rw [hC]; rfl
  have hnd : nx ∉ done := fun hh => by have := h _ hh; omega
  have hst : ∀ u, 1 ≤ u → u < nx → C.state u = if u ∈ done then 2 else 3 := fun u h1 h2 => by
    unfold Bk.state
    rw [if_neg (by rw [hnext]; omega), hall, if_neg (by omega)]
    by_cases hd : u ∈ done <;> simp [hd]
  have hme : C.state nx = 1 := by
    unfold Bk.state
    rw [if_neg (by rw [hnext]; omega), hall, if_pos rfl]
  have hget : ∀ u, u ≠ nx → C.get u = if u ∈ done then (2, 0, 0) else (0, 0, 0) := fun u hu => by
    unfold Bk.get
    rw [hall, if_neg hu]
    by_cases hd : u ∈ done <;> simp [hd]
  have hgn : C.get nx = (1, 1, 0) := by unfold Bk.get; rw [hall, if_pos rfl]; rfl
  rw [← hC]
  refine ⟨fun u h1 h2 => ?_, hst, fun u h1 h2 => ?_, fun u h1 h2 => ?_, fun u h1 h2 => ?_, hme, ?_, by rw [hC]; rfl⟩
  · have e : (nx == u) = false := by have : nx ≠ u := by omega
                                     simpa using this
    unfold Bk.sees
    rw [if_neg (by
      rintro (hh | hh | hh)
      · rw [hme] at hh; cases hh
      · rw [hst u h1 h2] at hh; split at hh <;> cases hh
      · rw [hfirst] at hh; omega), e, hget u (by omega), hgn]
    by_cases hd : u ∈ done <;> simp [hd]
  · unfold Bk.conc
    rw [if_pos (.inr (by rw [hfirst]; omega))]
  · unfold Bk.sees
    rw [if_pos (.inr (.inr (by rw [hfirst]; omega)))]
  · have : (C.get u).1 ≠ 1 := by
      rw [hget u (by omega)]
      by_cases hd : u ∈ done <;> simp [hd]
    unfold Bk.endR Bk.endB
    rw [if_neg this, if_neg this]
    exact ⟨rfl, rfl⟩
  · unfold Bk.list
    rw [hnext, upto_succ (by omega), List.filter_append]
    have e1 : (upto nx).filter (fun k => (C.get k).1 == 1) = [] := by
      rw [List.filter_eq_nil_iff]
      intro a ha
      have := (mem_upto.1 ha).2
      rw [hget a (by omega)]
      by_cases hd : a ∈ done <;> simp [hd]
    rw [e1]
    simp [hgn]
set_option maxRecDepth 100000 in
set_option maxHeartbeats 4000000 in
theorem rest_walk (a1 : Option Addr) (l1 c1 : Nat) (K1 T1 U1 : Nat → Int) (w : World) (hm1 : l1 ≤ 9223372036854775807) (hp1 : SlRd w a1 l1 3 (opsV K1 T1 U1)) :
    Calls Try.prog 7 #[.slice a1 l1 c1] w fun e w' => e = .returned (.bool true) ∧ Below w.heap.size w w' := by
  have HP1 := Lib.hid hp1
  clear hp1
  go_enter Try.func7, Try.ntmps7
  go_wp2_with (go_at_call 13; refine (awake19 _).mono ?_; rintro e w1 ⟨rfl, x1⟩)
  have X1 := Lib.hid x1
  clear x1
  go_wp2_with fail
  refine (new_ok 1 200 none 0 0 noV w1 (by omega) (rd_none _ _ _) (newOk_none 200 (by decide) (by decide))).mono ?_
  rintro e w2 ⟨r, rfl, b2, x2⟩
  rw [start_none] at b2
  have z1 := X1.out.size
  have z2 := x2.size
  obtain ⟨F, hFe⟩ : ∃ F, F = Ext (fun _ => False) w1 w2 := ⟨_, rfl⟩
  have hF1 : ∀ k, F k → w.heap.size ≤ k ∧ k < w2.heap.size := fun k hk => by
    rw [hFe] at hk
    rcases hk with hk | hk
    · exact hk.elim
    · omega
  rw [← hFe] at b2
  have HF := Lib.hid hF1; have B2 := Lib.hid b2
  have FX2 := Lib.hid (show From0 w w2 from (X1.out.trans x2 (fun _ h => h.elim)).mono (fun _ h => h.elim))
  clear hFe hF1 b2 x2
  go_wp2_with fail
  refine (plays_any r F _ w w2 a1 l1 c1 K1 T1 U1 hm1 HP1.out FX2.out (fun k hk => (HF.out k hk).1) B2.out (by decide)).mono ?_
  rintro e w3 ⟨rfl, n3, B3, hn3, st3, b3, x3⟩
  have hb3 := st3.bounds
  have W3 := Lib.hid ((wf_new 200 (by decide) (by decide)).steps st3)
  simp only at hb3
  have nx3 : B3.next ≤ 61 := by omega
  have nn3 := W3.out.ok.n1
  have HB3 := Lib.hid b3; have FX3 := Lib.hid (show From0 w w3 from Chg.trans FX2.out x3 (fun k hk => .inl (HF.out k hk).1))
  have z3 := x3.size
  clear st3 b3 x3 hb3
  go_wp2_with fail
  refine (committed_any r F B3 w3 HB3.out).mono ?_
  rintro e w4 ⟨v7, rfl, hv7, x4⟩
  obtain ⟨a7, cap7, rfl, hf7⟩ := hv7.form
  have V7 := Lib.hid hv7; have HB4 := Lib.hid (HB3.out.quiet x4); have FX4 := Lib.hid (show From0 w w4 from Chg.trans FX3.out x4 (fun _ h => h.elim))
  have F7 := Lib.hid hf7
  have z4 := x4.size
  have VB := Lib.hid (fun (g : Nat) (hg : (Value.slice a7 (B3.list 2).length cap7).ownBlock = some g) => Nat.lt_of_lt_of_le (V7.out.lt hg) (Nat.le_refl _))
  have HD := Lib.hid (fun u (hu : u ∈ B3.list 2) => get_dom W3.out.ok (t := u) (by rw [(mem_list W3.out.ok (by decide)).1 hu]; decide))
  have hdl := V7.out.len_le
  clear hv7 x4 hf7
  go_wp2_with fail
  refine (next_any r F B3 w4 HB4.out).mono ?_
  rintro e w4x ⟨rfl, rfl⟩
  generalize B3.list 2 = done at *
  generalize hnx : B3.next = nx at *
  have HNX := Lib.hid hnx
  clear hnx
  go_wp2_with fail
  refine (new_ok nx 300 a7 done.length cap7 (dV done) w4 hdl V7.out.rd (newOk_done (by omega) (by decide) (by decide) (by omega) HD.out)).mono ?_
  rintro e w5 ⟨c, rfl, b5, x5⟩
  have z5 := x5.size
  obtain ⟨F2, hF2e⟩ : ∃ F2, F2 = Ext (fun _ => False) w4 w5 := ⟨_, rfl⟩
  have hF2 : ∀ k, F2 k → w4.heap.size ≤ k := fun k hk => by
    rw [hF2e] at hk
    rcases hk with hk | hk
    · exact hk.elim
    · omega
  rw [← hF2e] at b5
  have HF2 := Lib.hid hF2; have HB5 := Lib.hid b5; have FX5 := Lib.hid (show From0 w w5 from Chg.trans FX4.out x5 (fun _ h => h.elim))
  have V5 := Lib.hid (V7.out.quiet x5); have HR5 := Lib.hid (HB4.out.quiet x5)
  have z04 : w.heap.size ≤ w4.heap.size := FX4.out.size
  have R0 := Lib.hid (rest_of (nx := nx) (mo := 300) (done := done) (by omega) (by decide) (by omega) HD.out)
  clear hF2e hF2 b5 x5
  go_wp2_with fail
  refine (begin_ok c F2 _ w5 HB5.out (by show nx ≤ 300; omega) (by show (0 : Int) < _; omega)).mono ?_
  rintro e w6 ⟨rfl, b6, x6⟩
  rw [show (Bk.start nx 300 (dV done) done.length).next = nx from rfl]
  have HB6 := Lib.hid b6; have FX6 := Lib.hid (show From0 w w6 from Chg.trans FX5.out x6 (fun k hk => .inl (by have := HF2.out k hk; omega)))
  have V6 := Lib.hid (Ints.chg V5.out x6 (fun g hg hf => by have := VB.out g hg; have := HF2.out g hf; omega))
  have HR6 := Lib.hid (HR5.out.chg x6 (fun k hk hf => by have := (HF.out k hk).2; have := HF2.out k hf; omega))
  clear b6 x6
  generalize (Bk.start nx 300 (dV done) done.length).begin = C at *
  go_wp2
  go_loopw [10] (fun s10 wr => ∃ u : Int, 1 ≤ u ∧ u ≤ nx ∧ s10 = .int .i64 u ∧ BookAt wr c F2 C ∧ BookAt wr r F B3 ∧ Ints wr w3.heap.size (.slice a7 done.length cap7) done ∧ From0 w wr) (fun s10 _ => nx.toNat - (intOf s10).toNat)
  case atStart => exact ⟨1, Int.le_refl _, by omega, rfl, HB6.out, HR6.out, V6.out, FX6.out⟩
  case round =>
    clear HB6 HR6 V6 FX6 HB5 HR5 V5 FX5 HB4 FX4 HB3 FX3 B2 FX2 V7
    obtain ⟨u, hu1, hu2, rfl, hb, hbr, hv, hx⟩ := hrel
    have BK := Lib.hid hb; have BR := Lib.hid hbr; have HV := Lib.hid hv; have HX := Lib.hid hx
    clear hb hbr hv hx
    by_cases hul : u < nx
    · go_wp2
      obtain ⟨wo, hwo⟩ : ∃ wo : World, wo = wr := ⟨_, rfl⟩
      subst hwo
      go_loop [11, 12] (fun s11 s12 => ∃ k : Nat, k ≤ done.length ∧ s11 = .bool (decide (u ∈ done.take k)) ∧ s12 = .int .i64 k) (fun _ s12 => done.length - (intOf s12).toNat)
      case atStart => exact ⟨0, Nat.zero_le _, by simp, rfl⟩
      case round =>
        obtain ⟨k, hk, rfl, rfl⟩ := hrel
        by_cases hkl : k < done.length
        · have HT := Lib.hid (take_snocI done k hkl)
          by_cases hin : u ∈ done.take k
          · have hd : decide (u ∈ done.take k) = true := by simpa using hin
            rw [hd]
            have HIN := Lib.hid hin
            clear hd hin
            go_wp2
            go_round
            case rel => exact ⟨k + 1, by omega, by rw [show decide (u ∈ done.take (k + 1)) = true from decide_eq_true (by rw [HT.out]; exact List.mem_append_left _ HIN.out)], by go_num⟩
            case measure => simp [intOf]; omega
          · have hd : decide (u ∈ done.take k) = false := by simpa using hin
            rw [hd]
            obtain ⟨g7, rfl, _, _⟩ := F7.out (by omega)
            have hcell := HV.out.at_ k hkl
            have HIN := Lib.hid hin
            have k0 : (0 : Int) ≤ (k : Int) := by omega
            have k1 : (k : Int) < (done.length : Int) := by omega
            clear hd hin
            generalize done[k] = d at *
            go_wp2
            go_round
            case rel =>
              refine ⟨k + 1, by omega, ?_, by go_num⟩
              have hdd : decide (u ∈ done.take (k + 1)) = (d == u) := by
                rw [Bool.eq_iff_iff]
                simp only [decide_eq_true_eq, beq_iff_eq]
                rw [HT.out, List.mem_append, List.mem_singleton]
                exact ⟨fun h => h.elim (fun h => absurd h HIN.out) (fun h => h.symm), fun h => .inr h.symm⟩
              rw [hdd]
            case measure => simp [intOf]; omega
        · have hke : k = done.length := by omega
          rw [hke, List.take_length]
          have X0 := Lib.hid (Chg.refl (fun _ => False) wo)
          have E1 := Lib.hid (R0.out.see u hu1 hul); have E2 := Lib.hid (R0.out.st u hu1 hul); have E3 := Lib.hid (R0.out.conc u hu1 hul); have E4 := Lib.hid (R0.out.back u hu1 hul); have E5 := Lib.hid (R0.out.endR u hu1 hul)
          clear hke
          cases hud : decide (u ∈ done) with
          | true =>
            have hst : C.state u = 2 := by rw [E2.out, if_pos (of_decide_eq_true hud)]
            have hse : C.sees nx u = true := by rw [E1.out]; exact hud
            have ST := Lib.hid hst; have SE := Lib.hid hse
            clear hst hse hud
            go_wp2_with fail
            refine (sees_any c F2 C _ nx u (BK.out.quiet X0.out)).mono ?_
            rintro e w1 ⟨rfl, x⟩
            have X1 := Lib.hid (X0.out.trans x (fun _ h => h.elim))
            clear x
            rw [SE.out]
            go_wp2_with fail
            refine (state_any c F2 C _ u (BK.out.quiet X1.out)).mono ?_
            rintro e w2 ⟨rfl, x⟩
            have X2 := Lib.hid (X1.out.trans x (fun _ h => h.elim))
            clear x
            rw [ST.out]
            go_wp2_with fail
            refine (conc_any c F2 C _ nx u (BK.out.quiet X2.out)).mono ?_
            rintro e w3 ⟨rfl, x⟩
            have X3 := Lib.hid (X2.out.trans x (fun _ h => h.elim))
            clear x
            rw [E3.out]
            go_wp2_with fail
            refine (sees_any c F2 C _ u nx (BK.out.quiet X3.out)).mono ?_
            rintro e w4 ⟨rfl, x⟩
            have X4 := Lib.hid (X3.out.trans x (fun _ h => h.elim))
            clear x
            rw [E4.out]
            go_wp2_with fail
            refine (commit_any c F2 C _ u (BK.out.quiet X4.out) (by rw [R0.out.step]; decide)).mono ?_
            rintro e w9 ⟨rfl, b9, x9⟩
            rw [E5.out.1]
            rw [E5.out.2] at b9
            have B9 := Lib.hid b9; have X9 := Lib.hid (Chg.trans (X4.out.mono (fun _ h => h.elim)) x9 (fun k hk => .inl hk))
            clear b9 x9
            go_wp2
            go_roundw
            case rel => exact ⟨u + 1, by omega, by omega, rfl, B9.out, BR.out.chg X9.out (fun k hk hf => by have := (HF.out k hk).2; have := HF2.out k hf; omega), HV.out.chg X9.out (fun g hg hf => by have := VB.out g hg; have := HF2.out g hf; omega), Chg.trans HX.out X9.out (fun k hk => .inl (by have := HF2.out k hk; omega))⟩
            case measure => simp [intOf]; omega
          | false =>
            have hst : C.state u = 3 := by rw [E2.out, if_neg (of_decide_eq_false hud)]
            have hse : C.sees nx u = false := by rw [E1.out]; exact hud
            have ST := Lib.hid hst; have SE := Lib.hid hse
            clear hst hse hud
            go_wp2_with fail
            refine (sees_any c F2 C _ nx u (BK.out.quiet X0.out)).mono ?_
            rintro e w1 ⟨rfl, x⟩
            have X1 := Lib.hid (X0.out.trans x (fun _ h => h.elim))
            clear x
            rw [SE.out]
            go_wp2_with fail
            refine (state_any c F2 C _ u (BK.out.quiet X1.out)).mono ?_
            rintro e w2 ⟨rfl, x⟩
            have X2 := Lib.hid (X1.out.trans x (fun _ h => h.elim))
            clear x
            rw [ST.out]
            go_wp2_with fail
            refine (state_any c F2 C _ u (BK.out.quiet X2.out)).mono ?_
            rintro e w3 ⟨rfl, x⟩
            have X3 := Lib.hid (X2.out.trans x (fun _ h => h.elim))
            clear x
            rw [ST.out]
            go_wp2_with fail
            refine (conc_any c F2 C _ nx u (BK.out.quiet X3.out)).mono ?_
            rintro e w4 ⟨rfl, x⟩
            have X4 := Lib.hid (X3.out.trans x (fun _ h => h.elim))
            clear x
            rw [E3.out]
            go_wp2_with fail
            refine (sees_any c F2 C _ u nx (BK.out.quiet X4.out)).mono ?_
            rintro e w5 ⟨rfl, x⟩
            have X5 := Lib.hid (X4.out.trans x (fun _ h => h.elim))
            clear x
            rw [E4.out]
            go_wp2_with fail
            refine (commit_any c F2 C _ u (BK.out.quiet X5.out) (by rw [R0.out.step]; decide)).mono ?_
            rintro e w9 ⟨rfl, b9, x9⟩
            rw [E5.out.1]
            rw [E5.out.2] at b9
            have B9 := Lib.hid b9; have X9 := Lib.hid (Chg.trans (X5.out.mono (fun _ h => h.elim)) x9 (fun k hk => .inl hk))
            clear b9 x9
            go_wp2
            go_roundw
            case rel => exact ⟨u + 1, by omega, by omega, rfl, B9.out, BR.out.chg X9.out (fun k hk hf => by have := (HF.out k hk).2; have := HF2.out k hf; omega), HV.out.chg X9.out (fun g hg hf => by have := VB.out g hg; have := HF2.out g hf; omega), Chg.trans HX.out X9.out (fun k hk => .inl (by have := HF2.out k hk; omega))⟩
            case measure => simp [intOf]; omega
    · have hue : u = nx := by omega
      have hact := R0.out.act
      have ME := Lib.hid R0.out.me
      have X0 := Lib.hid (Chg.refl (fun _ => False) wr)
      go_wp2_with (go_at_call 22; refine (next_any r F B3 _ BR.out).mono ?_; rintro e wN ⟨rfl, rfl⟩; rw [HNX.out])
      refine (state_any c F2 C _ nx (BK.out.quiet X0.out)).mono ?_
      rintro e w8 ⟨rfl, x8⟩
      have X8 := Lib.hid x8
      rw [ME.out]
      clear x8
      go_wp2_with fail
      refine (active_any c F2 C _ (BK.out.quiet X8.out)).mono ?_
      rintro e w9 ⟨v9, rfl, hv9, x9⟩
      obtain ⟨a9, cap9, rfl, _⟩ := hv9.form
      have X9 := Lib.hid (show From0 w w9 from Chg.trans HX.out (X8.out.trans x9 (fun _ h => h.elim)) (fun _ h => h.elim))
      have hl9 : (C.list 1).length = 1 := by rw [hact]; rfl
      rw [hl9]
      clear hv9 x9 hact hl9
      go_wp2
      go_ret
      exact ⟨by simp, Chg.below X9.out (fun _ h => h) (Nat.le_refl _)⟩
end Go.Proofs.Ytfegpmbgcocldaa
