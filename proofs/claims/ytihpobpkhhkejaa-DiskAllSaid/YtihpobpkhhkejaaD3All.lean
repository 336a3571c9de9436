/-
  The walk of DiskAll: it returns true, for every list of writes and every place of the Sync. Condition: the list is read as it came in.
-/
import Derived.Test.YtihpobpkhhkejaaD3AllLaw
import Derived.Test.YtihpobpkhhkejaaSecEq
import Derived.Deep.DeepCutAuto
import Derived.Deep.OwnRows
set_option autoImplicit false
namespace Go.Proofs.Ytihpobpkhhkejaa
open Go Go.RowKit

def Btw (a b k : Nat) : Prop := a ≤ k ∧ k < b
theorem DiskAt.btw {w w' : World} {r : Nat} {D : Dsk} (h : DiskAt w' r (Ext (fun _ => False) w w') D) : DiskAt w' r (Btw w.heap.size w'.heap.size) D :=
  h.mono (fun k hk _ => hk.elim (fun h => h.elim) (fun h => h))
/-- a row of bools of one's own, of which the first k are true -/
def Marks (w : World) (g n k : Nat) : Prop := ∃ cs, w.heap[g]? = some (.cells cs 4 (0, 0)) ∧ cs.size = n ∧ ∀ i, i < n → cs[i]? = some (.bool (decide (i < k)))
theorem Marks.made (w : World) (n : Nat) : Marks (w.alloc (.cells (madeCells #[.bool false] n) 4)) w.heap.size n 0 :=
  ⟨_, hal_new, size_madeCells _ _, fun i hi => by simp [madeCells, hi, Nat.mod_one]⟩
theorem Marks.chg {w w' : World} {F : Nat → Prop} {g n k : Nat} (h : Marks w g n k) (c : Chg F w w') (hg : ¬ F g) : Marks w' g n k := by
  obtain ⟨cs, h1, h2⟩ := h
  exact ⟨cs, c.heap h1 hg, h2⟩
theorem Marks.set {w : World} {g n k : Nat} (h : Marks w g n k) (hk : k < n) : Marks (w.setCell ⟨g, k, none⟩ (.bool true)) g n (k + 1) := by
  obtain ⟨cs, h1, h2, h3⟩ := h
  refine ⟨_, hset_eq h1, by simpa using h2, fun i hi => ?_⟩
  rw [Array.getElem?_setIfInBounds]
  by_cases hik : k = i
  · subst hik; rw [if_pos rfl, if_pos (by omega)]; simp
  · rw [if_neg hik, h3 i hi]; congr 2; rw [Bool.eq_iff_iff]; simp; omega
theorem Marks.bools {w : World} {F : Nat → Prop} {g n k : Nat} (h : Marks w g n k) (hk : k = 0 ∨ k = n) (hn : n ≤ 9223372036854775807) (hF : ¬ F g) : BoolsAt w F (.slice (some ⟨g, 0, none⟩) n n) (List.replicate n (decide (0 < k))) := by
  obtain ⟨cs, h1, h2, h3⟩ := h
  refine ⟨_, n, by simp, by simpa using hn, fun _ => ⟨g, 0, rfl, hF, fun i b hi => ?_⟩⟩
  rw [List.getElem?_replicate] at hi
  split at hi
  · rename_i hin
    obtain rfl := Option.some.inj hi
    rw [Nat.zero_add, cell_of_row w g i _ _ _ h1, h3 i hin]
    congr 2
    rw [Bool.eq_iff_iff]; simp; omega
  · simp at hi
set_option maxRecDepth 100000 in
set_option maxHeartbeats 1000000 in
theorem all_walk (sync : Int) (ao : Option Addr) (len cap : Nat) (pn pb : Nat → Int) (w : World) (hlen : len ≤ maxLen) (hcap : len ≤ cap) (hs0 : -9223372036854775808 ≤ sync) (hs1 : sync ≤ 9223372036854775807)
    (hp : SlRd w ao len 2 (fun i j => if j = 0 then .int .i64 (pn i) else .int .u8 (pb i))) :
    Calls Try.prog 5 #[.slice ao len cap, .int .i64 sync] w fun e w' => e = .returned (.bool true) ∧ Below w.heap.size w w' := by
  have hlen' := hlen
  unfold maxLen at hlen'
  have HP := Lib.hid hp; have HL := Lib.hid hlen
  clear hp hlen
  go_enter Try.func5, Try.ntmps5
  go_wp2_with (go_at_call 14; refine (awake3 _).mono ?_; rintro e w1 ⟨rfl, a1⟩)
  have A1 := Lib.hid a1
  have z1 : w.heap.size ≤ w1.heap.size := a1.size
  have B1 := Lib.hid (a1.below (B := w.heap.size) (fun _ h => h.elim) (Nat.le_refl _))
  have P1 := Lib.hid (show SlRd w1 ao len 2 (fun i j => if j = 0 then .int .i64 (pn i) else .int .u8 (pb i)) from HP.out.chg a1 (fun _ _ h => h))
  clear a1
  refine (laid_walk sync ao len cap pn pb w1 HL.out P1.out).mono ?_
  rintro e w2 ⟨r, rfl, d2, x2⟩
  have HI := Lib.hid (laid_inv pn pb sync (min len 100))
  generalize hD : laidD pn pb sync (min len 100) = D at *
  have HD := Lib.hid hD
  have D2 := Lib.hid d2.btw; have X2 := Lib.hid x2; have z2 := x2.size
  clear d2 x2 hD
  have hn : D.wait.length ≤ 100 := by have := HI.out.wait; omega
  have HN := Lib.hid (show D.wait.length < 3000000000000 by omega)
  go_wp2_with fail
  refine (dclone_any r _ D w2 D2.out HN.out).mono ?_
  rintro e w3 ⟨ra, rfl, d3, x3⟩
  have D3 := Lib.hid (D2.out.chg x3 (fun _ _ h => h)); have A3 := Lib.hid d3.btw; have X3 := Lib.hid (X2.out.trans x3 (fun _ h => h.elim)); have z3 := x3.size
  clear d3 x3
  go_wp2_with fail
  refine (waiting_any r _ D w3 D3.out).mono ?_
  rintro e w4 ⟨rfl, rfl⟩
  have hmk := run_make_row' (P := Try.prog) 23 4 (.bool false) 1 Try.underlying23 (by kernel_rfl) rfl .i64 .i64 D.wait.length (by omega) (by omega)
  generalize hN : D.wait.length = n at *
  have EN := Lib.hid hN
  clear hN
  go_wp2
  have c4 := (Chg.refl (fun _ => False) w3).alloc (.cells (madeCells #[.bool false] n) 4)
  have M4 := Marks.made w3 n
  have X4 := Lib.hid c4
  have z4 : (w3.alloc (.cells (madeCells #[.bool false] n) 4)).heap.size = w3.heap.size + 1 := by simp
  clear c4
  generalize (w3.alloc (.cells (madeCells #[.bool false] n) 4)) = w4 at *
  go_loopw [8] (fun i wr => ∃ k : Nat, k ≤ n ∧ i = .int .i64 k ∧ Marks wr w3.heap.size n k ∧ Chg (fun x => x = w3.heap.size) w4 wr) (fun i _ => n - (intOf i).toNat)
  case atStart => exact ⟨0, Nat.zero_le _, rfl, M4, Chg.refl _ _⟩
  case round =>
    clear M4 hmk
    obtain ⟨k, hk, rfl, hm, hx⟩ := hrel
    have HM := Lib.hid hm; have HX := Lib.hid hx
    clear hm hx
    by_cases hlt : k < n
    · obtain ⟨cs, h1, h2, h3⟩ := HM.out
      have hc0 : wr.cell? ⟨w3.heap.size, k, none⟩ = some (.bool false) := by
        rw [cell_of_row wr _ k _ _ _ h1, h3 k hlt]; simp
      have hf0 : wr.frozen? ⟨w3.heap.size, k, none⟩ = false := frozen_of_row wr _ k _ _ h1
      clear h1 h2 h3
      go_wp2
      go_roundw
      case rel => exact ⟨k + 1, by omega, by go_num, HM.out.set hlt, HX.out.setCell (.inl rfl) _⟩
      case measure => simp [intOf]; omega
    · have hkn : k = n := by omega
      have M5 := Lib.hid (show Marks wr w3.heap.size n n from by have := HM.out; rw [hkn] at this; exact this)
      have c5 : Chg (fun _ => False) w3 wr := X4.out.trans HX.out (fun x hx => .inr (by omega))
      have D5 := Lib.hid (D3.out.chg c5 (fun _ _ h => h)); have A5 := Lib.hid (A3.out.chg c5 (fun _ _ h => h)); have X5 := Lib.hid (X3.out.trans c5 (fun _ h => h.elim))
      have z5 : w3.heap.size + 1 ≤ wr.heap.size := by have := HX.out.size; omega
      clear c5 hlt
      go_wp2_with fail
      refine (dclone_any r _ D wr D5.out (by rw [EN.out]; exact HN.out)).mono ?_
      rintro e w6 ⟨rn, rfl, d6, x6⟩
      have D6 := Lib.hid (D5.out.chg x6 (fun _ _ h => h)); have A6 := Lib.hid (A5.out.chg x6 (fun _ _ h => h)); have N6 := Lib.hid d6.btw; have X6 := Lib.hid (X5.out.trans x6 (fun _ h => h.elim)); have M6 := Lib.hid (M5.out.chg x6 (fun h => h))
      have z6 := x6.size
      clear d6 x6
      have hmk := run_make_row' (P := Try.prog) 23 4 (.bool false) 1 Try.underlying23 (by kernel_rfl) rfl .i64 .i64 n (by omega) (by omega)
      go_wp2_with fail
      have c7 := (Chg.refl (fun _ => False) w6).alloc (.cells (madeCells #[.bool false] n) 4)
      have V7 := Lib.hid ((Marks.made w6 n).bools (F := Btw wr.heap.size w6.heap.size) (.inl rfl) (by omega) (fun h => by have := h.2; omega))
      refine (restart_any rn _ D _ _ _ (N6.out.chg c7 (fun _ _ h => h)) V7.out (by rw [EN.out]; exact HN.out)).mono ?_
      rintro e w8 ⟨rfl, d8, x8'⟩
      have x8 : Chg (Btw wr.heap.size w6.heap.size) w6 w8 := (c7.mono (fun _ h => h.elim)).trans x8' (fun x h => .inl h)
      have z8 := x8.size
      have N8 := Lib.hid (show DiskAt w8 rn (Btw wr.heap.size w8.heap.size) (D.restart (List.replicate n false)) from d8.mono (fun k hk _ => by
        rcases hk with hk | hk
        · exact ⟨hk.1, by have := hk.2; omega⟩
        · exact ⟨by have := hk.1; simp at this; omega, hk.2⟩))
      have D8 := Lib.hid (D6.out.chg x8 (fun k hk h => by have := hk.2; have := h.1; omega)); have A8 := Lib.hid (A6.out.chg x8 (fun k hk h => by have := hk.2; have := h.1; omega))
      have M8 := Lib.hid (M6.out.chg x8 (fun h => by have := h.1; omega))
      have X8 := Lib.hid (X6.out.trans x8 (fun k h => .inr (by have := h.1; omega)))
      have P8 := Lib.hid (P1.out.chg X8.out (fun _ _ h => h))
      clear d8 x8 x8' c7 hmk
      go_upto_region 12 with fail
      go_cut [57] (fun c wx => c = .bool (decide (0 ≤ sync ∧ sync < len ∧ sync < 100)) ∧ wx = w8)
      case first => 
        by_cases h1 : 0 ≤ sync
        · by_cases h2 : sync < len
          · by_cases h3 : sync < 100
            · go_wp2
              go_meet
              exact ⟨congrArg Value.bool (decide_eq_true ⟨h1, h2, h3⟩).symm, rfl⟩
            · go_wp2
              go_meet
              exact ⟨congrArg Value.bool (decide_eq_false (fun h => by omega)).symm, rfl⟩
          · go_wp2
            go_meet
            exact ⟨congrArg Value.bool (decide_eq_false (fun h => by omega)).symm, rfl⟩
        · go_wp2
          go_meet
          exact ⟨congrArg Value.bool (decide_eq_false (fun h => by omega)).symm, rfl⟩
      case rest =>
        obtain ⟨rfl, rfl⟩ := hcut
        go_upto_if 57 with fail
        go_cut [0] (fun v wx => (∃ a' l' c', v = .slice a' l' c' ∧ l' ≤ maxLen ∧ SlRd wc a' l' 2 (fun i j => if j = 0 then .int .i64 (pn i) else .int .u8 (pb i)) ∧ ∀ x, (laidD pn pb ((l' : Int) - 1) (min l' 100)).now x = D.kept x) ∧ wx = wc)
        case first =>
          by_cases hc : 0 ≤ sync ∧ sync < len ∧ sync < 100
          · have hq : (decide (0 ≤ sync ∧ sync < len ∧ sync < 100)) = true := decide_eq_true hc
            obtain ⟨h1, h2, h3⟩ := hc
            obtain ⟨s, rfl⟩ : ∃ s : Nat, sync = s := ⟨sync.toNat, by omega⟩
            obtain ⟨b, o, rfl, hbl, hcc⟩ := P8.out (by omega)
            have HS := Lib.hid hcc
            clear hcc
            rw [hq]
            clear hq
            go_wp2
            go_meet
            refine ⟨⟨some ⟨b, o, none⟩, s + 1, cap, rfl, by unfold maxLen; omega, fun _ => ⟨b, o, rfl, hbl, fun i j hi hj => HS.out i j (by omega) hj⟩, fun x => ?_⟩, rfl⟩
            rw [← HD.out, show min (s + 1) 100 = s + 1 by omega, show (((s + 1 : Nat) : Int) - 1) = (s : Int) by omega]
            exact congrFun (laid_was pn pb s (min len 100) (by omega)) x
          · have hq : (decide (0 ≤ sync ∧ sync < len ∧ sync < 100)) = false := decide_eq_false hc
            rw [hq]
            clear hq
            go_wp2
            go_meet
            refine ⟨⟨none, 0, 0, rfl, Nat.zero_le _, fun h => by omega, fun x => ?_⟩, rfl⟩
            rw [← HD.out]
            exact congrFun (laid_never pn pb pn pb sync _ (min len 100) (by omega)) x
        case rest =>
          obtain ⟨⟨a', l', c', rfl, hl', hp', hw'⟩, rfl⟩ := hcut
          have PW := Lib.hid hp'; have LW := Lib.hid hl'; have KW := Lib.hid hw'
          clear hp' hl' hw'
          have hwr : wrap64 ((l' : Int) - 1) = (l' : Int) - 1 := by have := LW.out; unfold maxLen at this; unfold wrap64; omega
          have HWR := Lib.hid hwr
          clear hwr
          go_wp2_with fail
          rw [HWR.out]
          refine (laid_walk ((l' : Int) - 1) a' l' c' pn pb wc LW.out PW.out).mono ?_
          rintro e w9 ⟨rw', rfl, d9, x9⟩
          have W9 := Lib.hid d9.btw
          generalize hWW : laidD pn pb ((l' : Int) - 1) (min l' 100) = W at *
          have KX := Lib.hid (show W.calm ∧ W.size = 6 from by rw [← hWW]; exact ⟨(laid_inv _ _ _ _).calm, (laid_inv _ _ _ _).size⟩)
          clear hWW
          have D9 := Lib.hid (D8.out.chg x9 (fun _ _ h => h)); have A9 := Lib.hid (A8.out.chg x9 (fun _ _ h => h)); have N9 := Lib.hid (N8.out.chg x9 (fun _ _ h => h)); have M9 := Lib.hid (M8.out.chg x9 (fun h => h)); have X9 := Lib.hid (X8.out.trans x9 (fun _ h => h.elim))
          have z9 := x9.size
          clear d9 x9
          have V9 := Lib.hid (M9.out.bools (F := Btw w2.heap.size w3.heap.size) (.inr rfl) (by omega) (fun h => by have := h.2; omega))
          go_wp2_with fail
          refine (restart_any ra _ D _ _ _ A9.out V9.out (by rw [EN.out]; exact HN.out)).mono ?_
          rintro e w10 ⟨rfl, d10, x10⟩
          have z10 := x10.size
          have D10 := Lib.hid (D9.out.chg x10 (fun k hk h => by have := hk.2; have := h.1; omega)); have N10 := Lib.hid (N9.out.chg x10 (fun k hk h => by have := hk.1; have := h.2; omega)); have W10 := Lib.hid (W9.out.chg x10 (fun k hk h => by have := hk.1; have := h.2; omega))
          have X10 := Lib.hid (X9.out.trans x10 (fun k h => .inr (by have := h.1; omega)))
          have A10 := Lib.hid (show DiskAt w10 ra (fun k => Btw w2.heap.size w3.heap.size k ∨ w9.heap.size ≤ k) (D.restart (List.replicate n (decide (0 < n)))) from d10.mono (fun k hk _ => by
            rcases hk with hk | hk
            · exact .inl hk
            · exact .inr hk.1))
          clear d10 x10
          go_wp2_with fail
          refine (sync_any r _ D w10 D10.out (by rw [EN.out]; exact HN.out)).mono ?_
          rintro e w11 ⟨rfl, d11, x11⟩
          rw [HI.out.calm.2] at d11 ⊢
          have z11 := x11.size
          have N11 := Lib.hid (N10.out.chg x11 (fun k hk h => by have := hk.1; have := h.2; omega)); have W11 := Lib.hid (W10.out.chg x11 (fun k hk h => by have := hk.1; have := h.2; omega))
          have A11 := Lib.hid (A10.out.chg x11 (fun k hk h => by have := h.2; rcases hk with hk | hk; (have := hk.1; omega); omega))
          have X11 := Lib.hid (X10.out.trans x11 (fun k h => .inr (by have := h.1; omega)))
          have D11 := Lib.hid (show DiskAt w11 r _ D.sync from d11)
          have es : D.sync = D.flat := Dsk.calm.change (D := D.flat) HI.out.calm
          clear d11 x11
          rw [es] at D11
          clear es
          have FA : ∀ x, (D.restart (List.replicate n (decide (0 < n)))).now x = D.now x := by
            intro x
            by_cases h0 : 0 < n
            · rw [decide_eq_true h0, ← EN.out]; exact all_now HI.out x
            · obtain rfl : n = 0 := by omega
              have e := all_now HI.out x
              rw [EN.out] at e
              exact e
          have FN : ∀ x, (D.restart (List.replicate n false)).now x = W.now x := by
            intro x
            rw [KW.out x, ← EN.out]; exact none_now HI.out x
          have FA := Lib.hid FA; have FN := Lib.hid FN
          have HZ := Lib.hid info_sec0
          go_wp2
          go_loopw [11] (fun i wr => ∃ k : Nat, k ≤ 6 ∧ i = .int .i64 k ∧ Chg (fun _ => False) w11 wr) (fun i _ => 6 - (intOf i).toNat)
          case atStart => exact ⟨0, Nat.zero_le _, rfl, Chg.refl _ _⟩
          case round =>
            obtain ⟨k, hk, rfl, hx⟩ := hrel
            have HX := Lib.hid hx
            clear hx
            by_cases hlt : k < 6
            · have hs1 : (D.now k).length = 64 := D11.out.ok.2.2.2.2.1 k
              have hs2 : (W.now k).length = 64 := W11.out.ok.2.2.2.2.1 k
              have e1 : errOf D.flat.size D.flat.down k = 0 := by show errOf D.size D.down k = 0; rw [HI.out.size, HI.out.calm.2]; exact errOf_in (by omega) (by omega)
              have e2 : ∀ ks, errOf (D.restart ks).size (D.restart ks).down k = 0 := by intro ks; show errOf D.size false k = 0; rw [HI.out.size]; exact errOf_in (by omega) (by omega)
              have e3 : errOf W.size W.down k = 0 := by rw [KX.out.2, KX.out.1.2]; exact errOf_in (by omega) (by omega)
              have E1 := Lib.hid e1; have E2 := Lib.hid e2; have E3 := Lib.hid e3
              have q1 := sec_equal_self (D.now k) hs1; have q2 := sec_equal_self (W.now k) hs2
              have qg := sec_guard
              have L1 := Lib.hid ((secC_len (D.now k)).trans hs1); have I1 := Lib.hid (info_secC hs1); have O1 := Lib.hid (secC_one (D.now k))
              have L2 := Lib.hid ((secC_len (W.now k)).trans hs2); have I2 := Lib.hid (info_secC hs2); have O2 := Lib.hid (secC_one (W.now k))
              have Q1 := Lib.hid q1; have Q2 := Lib.hid q2
              clear e1 e2 e3 hs1 hs2 q1 q2
              generalize hcs : secC (D.now k) = cs at *
              generalize hct : secC (W.now k) = ct at *
              have EC := Lib.hid hcs; have ET := Lib.hid hct
              clear hcs hct
              go_wp2_with fail
              refine (read_ok r _ _ k wr (D11.out.chg HX.out (fun _ _ h => h)) E1.out).mono ?_
              rintro e w12 ⟨rfl, x12⟩
              have X12 := Lib.hid (HX.out.trans x12 (fun _ h => h.elim))
              clear x12
              rw [show secV (D.flat.now k) = .agg cs.toArray from by rw [← EC.out]; rfl]
              go_wp2_with (first | (refine wpList_alloc_big rfl 31 64 rfl HZ.out (fun zs hzs => ?_); have HZ1 := Lib.hid hzs; clear hzs) | (refine wpList_store_new rfl 31 _ _ rfl cs _ rfl rfl rfl (L1.out.trans HZ1.out.symm) I1.out O1.out ?_))
              have Y12 := Lib.hid (X12.out.alloc (.cells cs.toArray 31))
              have S12 := Lib.hid (hal_new (w := w12) (o := .cells cs.toArray 31))
              refine (read_ok ra _ _ k _ (A11.out.chg Y12.out (fun _ _ h => h)) (E2.out _)).mono ?_
              rintro e w13 ⟨rfl, x13⟩
              have X13 := Lib.hid (Y12.out.trans x13 (fun _ h => h.elim)); have S13 := Lib.hid (x13.heap S12.out (fun h => h))
              have l13 := lt_of_heap S13.out
              clear x13
              rw [show secV ((D.restart (List.replicate n (decide (0 < n)))).now k) = .agg cs.toArray from by rw [FA.out, ← EC.out]; rfl]
              go_wp2_with (first | (refine wpList_alloc_big rfl 31 64 rfl HZ.out (fun zs hzs => ?_); have HZ2 := Lib.hid hzs; clear hzs) | (refine wpList_store_new rfl 31 _ _ rfl cs _ rfl rfl rfl (L1.out.trans HZ2.out.symm) I1.out O1.out ?_))
              have Y13 := Lib.hid (X13.out.alloc (.cells cs.toArray 31))
              have S13' := Lib.hid ((hal_old (w := w13) (o := .cells cs.toArray 31) l13).trans S13.out); have T13 := Lib.hid (hal_new (w := w13) (o := .cells cs.toArray 31))
              refine (read_ok rn _ _ k _ (N11.out.chg Y13.out (fun _ _ h => h)) (E2.out _)).mono ?_
              rintro e w14 ⟨rfl, x14⟩
              have X14 := Lib.hid (Y13.out.trans x14 (fun _ h => h.elim)); have S14 := Lib.hid (x14.heap S13'.out (fun h => h)); have T14 := Lib.hid (x14.heap T13.out (fun h => h))
              have l14 := lt_of_heap S14.out; have m14 := lt_of_heap T14.out
              clear x14
              rw [show secV ((D.restart (List.replicate n false)).now k) = .agg ct.toArray from by rw [FN.out, ← ET.out]; rfl]
              go_wp2_with (first | (refine wpList_alloc_big rfl 31 64 rfl HZ.out (fun zs hzs => ?_); have HZ3 := Lib.hid hzs; clear hzs) | (refine wpList_store_new rfl 31 _ _ rfl ct _ rfl rfl rfl (L2.out.trans HZ3.out.symm) I2.out O2.out ?_))
              have Y14 := Lib.hid (X14.out.alloc (.cells ct.toArray 31))
              have S14' := Lib.hid ((hal_old (w := w14) (o := .cells ct.toArray 31) l14).trans S14.out); have T14' := Lib.hid ((hal_old (w := w14) (o := .cells ct.toArray 31) m14).trans T14.out); have U14 := Lib.hid (hal_new (w := w14) (o := .cells ct.toArray 31))
              refine (read_ok rw' _ _ k _ (W11.out.chg Y14.out (fun _ _ h => h)) E3.out).mono ?_
              rintro e w15 ⟨rfl, x15⟩
              have X15 := Lib.hid (Y14.out.trans x15 (fun _ h => h.elim)); have S15 := Lib.hid (x15.heap S14'.out (fun h => h)); have T15 := Lib.hid (x15.heap T14'.out (fun h => h)); have U15 := Lib.hid (x15.heap U14.out (fun h => h))
              have l15 := lt_of_heap S15.out; have m15 := lt_of_heap T15.out; have n15 := lt_of_heap U15.out
              clear x15
              have Y15 := Lib.hid (X15.out.alloc (.cells ct.toArray 31))
              have RS := Lib.hid (range_of_heap (hal_old (w := w15) (o := .cells ct.toArray 31) l15) (range_block S15.out)); have RT := Lib.hid (range_of_heap (hal_old (w := w15) (o := .cells ct.toArray 31) m15) (range_block T15.out)); have RU := Lib.hid (range_of_heap (hal_old (w := w15) (o := .cells ct.toArray 31) n15) (range_block U15.out)); have RV := Lib.hid (range_block (hal_new (w := w15) (o := .cells ct.toArray 31)))
              have q1 := Q1.out; have q2 := Q2.out
              rw [show secV (W.now k) = .agg ct.toArray from by rw [← ET.out]; rfl]
              go_wp2_with (first | (refine wpList_alloc_big rfl 31 64 rfl HZ.out (fun zs hzs => ?_); have HZ4 := Lib.hid hzs; clear hzs) | (refine wpList_store_new rfl 31 _ _ rfl ct _ rfl rfl rfl (L2.out.trans HZ4.out.symm) I2.out O2.out ?_) | (refine wpList_load_bigG rfl 31 _ rfl w12.heap.size 0 rfl cs _ RS.out Try.underlying31 rfl I1.out ?_) | (refine wpList_load_bigG rfl 31 _ rfl w13.heap.size 0 rfl cs _ RT.out Try.underlying31 rfl I1.out ?_) | (refine wpList_load_bigG rfl 31 _ rfl w14.heap.size 0 rfl ct _ RU.out Try.underlying31 rfl I2.out ?_) | (refine wpList_load_bigG rfl 31 _ rfl w15.heap.size 0 rfl ct _ RV.out Try.underlying31 rfl I2.out ?_))
              go_roundw
              case rel => exact ⟨k + 1, by omega, by go_num, Y15.out⟩
              case measure => simp [intOf]; omega
            · have hk6 : k = 6 := by omega
              go_wp2_with fail
              refine (waiting_any r _ _ wr (D11.out.chg HX.out (fun _ _ h => h))).mono ?_
              rintro e w12 ⟨rfl, rfl⟩
              rw [show D.flat.wait.length = 0 from rfl]
              go_wp2_with fail
              refine (waiting_any ra _ _ wr (A11.out.chg HX.out (fun _ _ h => h))).mono ?_
              rintro e w12 ⟨rfl, rfl⟩
              rw [show (D.restart (List.replicate n (decide (0 < n)))).wait.length = 0 from rfl]
              go_wp2
              go_ret
              refine ⟨rfl, B1.out.trans (((X11.out.trans HX.out (fun _ h => h.elim)).below (B := w1.heap.size) (fun _ h => h.elim) (Nat.le_refl _)).mono z1)⟩
end Go.Proofs.Ytihpobpkhhkejaa
