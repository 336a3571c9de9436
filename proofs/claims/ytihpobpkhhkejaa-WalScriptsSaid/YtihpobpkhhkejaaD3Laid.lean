/-
  What laid makes: a disk with so many writes, a Sync behind one of them. Condition: the list is read as it came in.
-/
import Derived.Test.YtihpobpkhhkejaaD3A
import Derived.Test.YtihpobpkhhkejaaRead
set_option autoImplicit false
namespace Go.Proofs.Ytihpobpkhhkejaa
open Go Go.RowKit

def laidD (pn pb : Nat → Int) (sync : Int) : Nat → Dsk
  | 0 => Dsk.new 6
  | k + 1 => if (k : Int) = sync then ((laidD pn pb sync k).writeR (pn k) (secB (pb k))).flat else (laidD pn pb sync k).writeR (pn k) (secB (pb k))
theorem laidD_yes {pn pb : Nat → Int} {sync : Int} {k : Nat} (h : (k : Int) = sync) : laidD pn pb sync (k + 1) = ((laidD pn pb sync k).writeR (pn k) (secB (pb k))).flat := if_pos h
theorem laidD_no {pn pb : Nat → Int} {sync : Int} {k : Nat} (h : (k : Int) ≠ sync) : laidD pn pb sync (k + 1) = (laidD pn pb sync k).writeR (pn k) (secB (pb k)) := if_neg h
structure LaidInv (k : Nat) (D : Dsk) : Prop where
  calm : D.calm
  size : D.size = 6
  wait : D.wait.length ≤ k
  same : keepAll D.kept D.wait = D.now
theorem keepAll_append (f : Int → Sec) (l : List (Int × Sec)) (x : Int × Sec) : keepAll f (l ++ [x]) = upd (keepAll f l) x.1 x.2 := by
  simp [keepAll]
theorem writeR_in {D : Dsk} (hc : D.calm) {n : Int} (h0 : 0 ≤ n) (h1 : n < D.size) (s : Sec) : D.writeR n s = D.put n s := by
  unfold Dsk.writeR
  rw [hc.2, if_pos (errOf_in h0 h1), hc.write]
theorem writeR_out {D : Dsk} {n : Int} (h : n < 0 ∨ D.size ≤ n) (s : Sec) : D.writeR n s = D := by
  unfold Dsk.writeR
  rw [errOf_out h]; rfl
theorem LaidInv.writeR {k : Nat} {D : Dsk} (h : LaidInv k D) (n : Int) (s : Sec) : LaidInv (k + 1) (D.writeR n s) := by
  by_cases hn : 0 ≤ n ∧ n < D.size
  · rw [writeR_in h.calm hn.1 hn.2]
    refine ⟨h.calm, h.size, by have := h.wait; simp [Dsk.put]; omega, ?_⟩
    show keepAll D.kept (D.wait ++ [(n, s)]) = upd D.now n s
    rw [keepAll_append, h.same]
  · rw [writeR_out (by omega)]
    exact ⟨h.calm, h.size, Nat.le_succ_of_le h.wait, h.same⟩
theorem LaidInv.flat {k : Nat} {D : Dsk} (h : LaidInv k D) : LaidInv k D.flat := ⟨h.calm, h.size, Nat.zero_le _, h.same⟩
theorem LaidInv.start : LaidInv 0 (Dsk.new 6) := ⟨new_calm 6, rfl, Nat.le_refl _, rfl⟩
theorem laid_inv (pn pb : Nat → Int) (sync : Int) (k : Nat) : LaidInv k (laidD pn pb sync k) := by
  induction k with
  | zero => exact LaidInv.start
  | succ k ih =>
    unfold laidD
    split
    · exact (ih.writeR _ _).flat
    · exact ih.writeR _ _
attribute [local go_sem ↓] exec_build_sec1
set_option maxRecDepth 100000 in
set_option maxHeartbeats 1000000 in
theorem laid_walk (sync : Int) (ao : Option Addr) (len cap : Nat) (pn pb : Nat → Int) (w : World) (hlen : len ≤ maxLen)
    (hp : SlRd w ao len 2 (fun i j => if j = 0 then .int .i64 (pn i) else .int .u8 (pb i))) :
    Calls Try.prog 23 #[.slice ao len cap, .int .i64 sync] w fun e w' => ∃ r, e = .returned (.pointer (some ⟨r, 0, none⟩)) ∧ DiskAt w' r (Ext (fun _ => False) w w') (laidD pn pb sync (min len 100)) ∧ Chg (fun _ => False) w w' := by
  unfold maxLen at hlen
  have HP := Lib.hid hp
  clear hp
  go_enter Try.func23, Try.ntmps23
  go_wp2_with fail
  refine (dk_new 6 w).mono ?_
  rintro e w2 ⟨r, rfl, d2, b2⟩
  have B2 := Lib.hid b2; have D2 := Lib.hid d2
  clear d2 b2
  go_wp2
  go_loopw [6] (fun i wr => ∃ k : Nat, k ≤ len ∧ k ≤ 100 ∧ i = .int .i64 k ∧ Dk w.heap.size [] wr r (laidD pn pb sync k) ∧ Own w.heap.size [] w wr) (fun i _ => len - (intOf i).toNat)
  case atStart => exact ⟨0, Nat.zero_le _, by omega, rfl, D2.out, B2.out⟩
  case round =>
    obtain ⟨k, hk, hk1, rfl, hd, hb⟩ := hrel
    have HD := Lib.hid hd; have HB := Lib.hid hb; have HI := Lib.hid (laid_inv pn pb sync k)
    clear hd hb
    by_cases hlt : k < len
    · by_cases h1 : k < 100
      · obtain ⟨b, o, rfl, hbl, hc⟩ := HP.out (by omega)
        have hc0 : wr.cell? ⟨b, o + k * 2, none⟩ = some (.int .i64 (pn k)) := by
          have := hc k 0 hlt (by omega)
          exact HB.out.cell hbl this
        have hc1 : wr.cell? ⟨b, o + k * 2 + 1, none⟩ = some (.int .u8 (pb k)) := by
          have := hc k 1 hlt (by omega)
          exact HB.out.cell hbl this
        clear hc
        by_cases hs : (k : Int) = sync
        · have EY := Lib.hid (laidD_yes (pn := pn) (pb := pb) hs)
          have HS := Lib.hid hs
          generalize hN : pn k = N at *
          generalize hP : pb k = P at *
          generalize hL : laidD pn pb sync k = L at *
          clear hN hP hL hs
          go_wp2_with fail
          refine wp_region_lex (fun w' => w'.cell? ⟨b, o + k * 2, none⟩ = some (.int .i64 N) ∧ w'.cell? ⟨b, o + k * 2 + 1, none⟩ = some (.int .u8 P)) 12 [12] [0, 1, 2, 3, 4, 5, 6, 7, 8, 9, 10, 11, 12] (by kernel_rfl) (by kernel_rfl) ⟨hc0, hc1⟩ ?_
          clear hc0 hc1
          iterate 12
            refine' lex_free (v := _) rfl rfl rfl ?_ (fun _ _ _ h => h) ?_
            rotate_left
            · rintro W ⟨hW1, hW2⟩
              go_simp
              with_reducible rfl
            try simp only [Act.put, List.setIfInBounds_toArray, List.set_cons_zero, List.set_cons_succ]
          refine lex_op rfl rfl rfl (fun K hK => ?_)
          go_simp
          refine (dk_write (HD.out.quiet (Chg.refl _ _).drew).1 N (secB P) (secB_len P) (by have := HI.out.wait; omega)).mono ?_
          rintro e w4 ⟨rfl, d4, b4'⟩
          refine hK _ _ (fun h => absurd rfl h) ?_
          clear hK K
          refine lex_nil ?_
          have b4 := (HD.out.quiet (Chg.refl _ _).drew).2.trans b4'
          have D4 := Lib.hid d4; have B4 := Lib.hid (HB.out.trans b4)
          have I4 := Lib.hid (HI.out.writeR N (secB P))
          have q : ((k : Int) == sync) = true := by simp [HS.out]
          clear d4 b4 b4'
          go_wp2_with fail
          refine (dk_sync_calm D4.out I4.out.calm (by have := I4.out.wait; omega)).mono ?_
          rintro e w5 ⟨rfl, d5, b5⟩
          have D5 := Lib.hid d5; have B5 := Lib.hid (B4.out.trans b5)
          clear d5 b5
          go_wp2
          go_roundw
          case rel => exact ⟨k + 1, by omega, by omega, by go_num, by rw [EY.out]; exact D5.out, B5.out⟩
          case measure => simp [intOf]; omega
        · have EY := Lib.hid (laidD_no (pn := pn) (pb := pb) hs)
          generalize hN : pn k = N at *
          generalize hP : pb k = P at *
          generalize hL : laidD pn pb sync k = L at *
          clear hN hP hL
          go_wp2_with fail
          refine wp_region_lex (fun w' => w'.cell? ⟨b, o + k * 2, none⟩ = some (.int .i64 N) ∧ w'.cell? ⟨b, o + k * 2 + 1, none⟩ = some (.int .u8 P)) 12 [12] [0, 1, 2, 3, 4, 5, 6, 7, 8, 9, 10, 11, 12] (by kernel_rfl) (by kernel_rfl) ⟨hc0, hc1⟩ ?_
          clear hc0 hc1
          iterate 12
            refine' lex_free (v := _) rfl rfl rfl ?_ (fun _ _ _ h => h) ?_
            rotate_left
            · rintro W ⟨hW1, hW2⟩
              go_simp
              with_reducible rfl
            try simp only [Act.put, List.setIfInBounds_toArray, List.set_cons_zero, List.set_cons_succ]
          refine lex_op rfl rfl rfl (fun K hK => ?_)
          go_simp
          refine (dk_write (HD.out.quiet (Chg.refl _ _).drew).1 N (secB P) (secB_len P) (by have := HI.out.wait; omega)).mono ?_
          rintro e w4 ⟨rfl, d4, b4'⟩
          refine hK _ _ (fun h => absurd rfl h) ?_
          clear hK K
          refine lex_nil ?_
          have b4 := (HD.out.quiet (Chg.refl _ _).drew).2.trans b4'
          have D4 := Lib.hid d4; have B4 := Lib.hid (HB.out.trans b4)
          have q : ((k : Int) == sync) = false := by simp [hs]
          clear d4 b4 b4'
          go_wp2
          go_roundw
          case rel => exact ⟨k + 1, by omega, by omega, by go_num, by rw [EY.out]; exact D4.out, B4.out⟩
          case measure => simp [intOf]; omega
      · have e : min len 100 = k := by omega
        have E := Lib.hid e
        clear e
        go_wp2
        go_ret
        rw [E.out]
        exact ⟨r, rfl, HD.out.at_.mono (fun x hx hl => .inr ⟨hx.1, hl⟩), Chg.mono HB.out (fun x hx => .inr hx.1)⟩
    · have e : min len 100 = k := by omega
      have E := Lib.hid e
      clear e
      go_wp2
      go_ret
      rw [E.out]
      exact ⟨r, rfl, HD.out.at_.mono (fun x hx hl => .inr ⟨hx.1, hl⟩), Chg.mono HB.out (fun x hx => .inr hx.1)⟩
end Go.Proofs.Ytihpobpkhhkejaa
