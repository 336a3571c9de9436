/-
  What the disk's Restart does. Conditions: a disk stands at the address, fewer than 3000000000000 writes wait.
-/
import Derived.Test.YtihpobpkhhkejaaDiskR
set_option autoImplicit false
namespace Go.Proofs.Ytihpobpkhhkejaa
open Go Go.RowKit

/-! Restart -/
/-- a slice of bools that somebody else owns -/
def BoolsAt (w : World) (F : Nat → Prop) (v : Value) (ks : List Bool) : Prop :=
  ∃ ao c, v = .slice ao ks.length c ∧ (ks.length ≤ 9223372036854775807) ∧ (0 < ks.length → ∃ b o, ao = some ⟨b, o, none⟩ ∧ ¬ F b ∧ ∀ i k, ks[i]? = some k → w.cell? ⟨b, o + i, none⟩ = some (.bool k))
theorem BoolsAt.nil (w : World) (F : Nat → Prop) : BoolsAt w F (.slice none 0 0) [] := ⟨none, 0, rfl, by simp, by simp⟩
theorem BoolsAt.chg {w w' : World} {F G : Nat → Prop} {v : Value} {ks : List Bool} (h : BoolsAt w F v ks) (c : Chg G w w') (hG : ∀ b, G b → F b) : BoolsAt w' F v ks := by
  obtain ⟨ao, cp, rfl, hb, h⟩ := h
  refine ⟨ao, cp, rfl, hb, fun hk => ?_⟩
  obtain ⟨b, o, rfl, hf, hc⟩ := h hk
  refine ⟨b, o, rfl, hf, fun i k hi => ?_⟩
  have := hc i k hi
  rw [cell_of_heap (c.keep b (World.block_lt_of_cell? w _ this) (fun hg => hf (hG b hg)))]
  exact this
def keepTo (f : Int → Sec) (l : List (Int × Sec)) (ks : List Bool) : Nat → Int → Sec
  | 0 => f
  | k + 1 => match l[k]?, ks[k]? with
    | some x, some true => upd (keepTo f l ks k) x.1 x.2
    | _, _ => keepTo f l ks k
def nowTo (f g : Int → Sec) (l : List (Int × Sec)) : Nat → Int → Sec
  | 0 => f
  | k + 1 => match l[k]? with
    | some x => upd (nowTo f g l k) x.1 (g x.1)
    | none => nowTo f g l k
def Dsk.r1 (D : Dsk) (ks : List Bool) (k : Nat) : Dsk := { D with kept := keepTo D.kept D.wait ks k }
def Dsk.r2 (D : Dsk) (ks : List Bool) (k : Nat) : Dsk := { D.r1 ks D.wait.length with now := nowTo D.now (D.r1 ks D.wait.length).kept D.wait k }
def Dsk.restart (D : Dsk) (ks : List Bool) : Dsk := { D.r2 ks D.wait.length with wait := [], down := false, left := -1 }
theorem r1_yes {D : Dsk} {ks : List Bool} {k : Nat} {x : Int × Sec} (h : D.wait[k]? = some x) (hk : ks[k]? = some true) : D.r1 ks (k + 1) = { D.r1 ks k with kept := upd (D.r1 ks k).kept x.1 x.2 } := by
  simp [Dsk.r1, keepTo, h, hk]
theorem r1_no {D : Dsk} {ks : List Bool} {k : Nat} (hk : ks[k]? ≠ some true) : D.r1 ks (k + 1) = D.r1 ks k := by
  simp only [Dsk.r1, keepTo]
  split
  · rename_i h2 h3; exact absurd h3 hk
  · rfl
theorem r2_succ {D : Dsk} {ks : List Bool} {k : Nat} {x : Int × Sec} (h : D.wait[k]? = some x) : D.r2 ks (k + 1) = { D.r2 ks k with now := upd (D.r2 ks k).now x.1 ((D.r2 ks k).kept x.1) } := by
  simp [Dsk.r2, nowTo, h]
theorem restart_nil (v : Value) (w : World) : Calls Try.prog 19 #[.pointer none, v] w fun e w' => e = .returned (.tuple #[]) ∧ w = w' := by
  go_enter Try.func19, Try.ntmps19
  go_wp2
  refine bodyPost_ret (results_none rfl _ _ _) rfl ?_
  exact ⟨rfl, rfl⟩
set_option maxRecDepth 100000 in
set_option maxHeartbeats 2000000 in
theorem restart_any (r : Nat) (F : Nat → Prop) (D : Dsk) (w : World) (v : Value) (ks : List Bool) (h : DiskAt w r F D) (hv : BoolsAt w F v ks) (hlen : D.wait.length < 3000000000000) :
    Calls Try.prog 19 #[.pointer (some ⟨r, 0, none⟩), v] w fun e w' => e = .returned (.tuple #[]) ∧ DiskAt w' r (Ext F w w') (D.restart ks) ∧ Chg F w w' := by
  obtain ⟨nb, kb, wv, esn, esk, cn, ck, h⟩ := h
  obtain ⟨c0, c1, c2, c3, c4, c5, c6⟩ := h.cells
  obtain ⟨ao, c, rfl, hao⟩ := ownsRow_form h.row
  obtain ⟨ka, kc, rfl, hkm, hka⟩ := hv
  have HH := Lib.hid h; have HA := Lib.hid hao; have HK := Lib.hid hka
  clear h hao hka
  go_enter Try.func19, Try.ntmps19
  go_wp2
  go_loopw [15] (fun i wr => ∃ (k : Nat) (esk' : Array MapEntry) (ck' : Nat), k ≤ D.wait.length ∧ i = .int .i64 k ∧ DiskIn wr r F (D.r1 ks k) nb kb (.slice ao D.wait.length c) esn esk' cn ck' ∧ Chg F w wr) (fun i _ => D.wait.length - (intOf i).toNat)
  case atStart => exact ⟨0, esk, ck, Nat.zero_le _, rfl, HH.out, Chg.refl _ _⟩
  case round =>
    obtain ⟨k, esk', ck', hk, rfl, hin, hchg⟩ := hrel
    by_cases hlt : k < D.wait.length
    · obtain ⟨g, rfl⟩ := HA.out (by omega)
      obtain ⟨x, hx⟩ : ∃ x, D.wait[k]? = some x := ⟨D.wait[k], by simp [hlt]⟩
      have hxl : x.2.length = 64 := HH.out.ok.2.2.2.2.2.2 x (List.mem_of_getElem? hx)
      have hl65 : (wrC x).length = 65 := by simp [hxl]
      have hsl : (secC x.2).length = 64 := by simp [hxl]
      have hrow := hin.row
      have hrg : wr.rangeAt g (k * 65) (wrC x) := by
        have := ownsRow_range hrow (k * 65) 65
        rw [show (D.r1 ks k).wait = D.wait from rfl, chunk wrC 65 D.wait (fun y hy => by simp [HH.out.ok.2.2.2.2.2.2 y hy]) k x hx] at this
        exact this
      have hi65 : (Try.prog.info? 94).map (·.size) = some (wrC x).length := by rw [hl65]; exact info_wr1
      have hi64 : (Try.prog.info? 31).map (·.size) = some (secC x.2).length := by rw [hsl]; exact info_sec
      have hz0 := info_wr0
      have HIN := Lib.hid hin; have HCH := Lib.hid hchg; have HRG := Lib.hid hrg; have HI65 := Lib.hid hi65; have HI64 := Lib.hid hi64; have HZ0 := Lib.hid hz0; have HX := Lib.hid hx; have HL65 := Lib.hid hl65; have HXL := Lib.hid hxl
      clear hin hchg hrg hi65 hi64 hz0 hx hl65 hsl hrow hxl
      by_cases hkl : k < ks.length
      · obtain ⟨b, o, rfl, hbf, hbc⟩ := HK.out (by omega)
        have hkc := hbc k ks[k] (by simp [hkl])
        have hkc2 : ∀ ob : Obj, (wr.alloc ob).cell? ⟨b, o + k, none⟩ = some (.bool ks[k]) := fun ob => by
          have hb1 := World.block_lt_of_cell? w _ hkc
          rw [cell_of_heap (w := w)]
          · exact hkc
          · exact (hal_old (by have := HCH.out.size; simp at hb1; omega)).trans (HCH.out.keep b hb1 hbf)
        have HKC := Lib.hid hkc2
        cases hkv : ks[k] with
        | true =>
          rw [hkv] at hkc2
          have HKV := Lib.hid hkv
          clear hbc hkc hbf hkv
          go_wp2_with (first | (refine wpList_load_big rfl 94 _ rfl g (k * 65) rfl (wrC x) _ HRG.out Try.underlying94 rfl HI65.out ?_) | (refine wpList_alloc_big rfl 94 65 rfl HZ0.out (fun zs hzs => ?_); have HZS := Lib.hid hzs; clear hzs) | (refine wpList_store_new rfl 94 _ _ rfl (wrC x) _ rfl rfl rfl (by rw [HL65.out, HZS.out]) HI65.out (wrC_one _) ?_))
          obtain ⟨W1, hW1⟩ : ∃ W1, W1 = wr.alloc (.cells (wrC x).toArray 94) := ⟨_, rfl⟩
          rw [← hW1]
          have q1 : DiskIn W1 r F (D.r1 ks k) nb kb (.slice (some ⟨g, 0, none⟩) D.wait.length c) esn esk' cn ck' := by subst hW1; exact HIN.out.alloc _
          have q2 : Chg F w W1 := by subst hW1; exact HCH.out.alloc _
          have q3 : W1.heap[wr.heap.size]? = some (.cells (wrC x).toArray 94 (0, 0)) := by subst hW1; exact hal_new
          have q4 := q1.cells.2.2.1
          have q5 : W1.cell? ⟨wr.heap.size, 0, none⟩ = some (.int .i64 x.1) := cell_of_row W1 _ 0 _ _ _ q3
          have q6 : W1.rangeAt wr.heap.size 1 (secC x.2) := fun j v hj => by
            rw [cell_of_row W1 _ _ _ _ _ q3, Nat.add_comm]; simpa [wrC] using hj
          have hmu := run_mapUpdate (P := Try.prog) (W1.drew) (t := 88) (kt := 3) (et := 31) (d := .int .i64) (k := .int .i64 x.1) (v := .agg (secC x.2).toArray) Try.underlying88 Try.underlying3 (by rfl) q1.kept q1.keptIs.1
          have Q1 := Lib.hid q1; have Q2 := Lib.hid q2; have HMU := Lib.hid hmu
          clear q1 q2 hW1 hmu q3 hkc2
          refine wp_region_lex (fun w' => w'.cell? ⟨r, 2, none⟩ = some (.map (some kb)) ∧ w'.cell? ⟨wr.heap.size, 0, none⟩ = some (.int .i64 x.1) ∧ w'.rangeAt wr.heap.size 1 (secC x.2)) 8 [8] [0, 1, 2, 3, 4, 5, 6, 7, 8] (by kernel_rfl) (by kernel_rfl) ⟨q4, q5, q6⟩ ?_
          iterate 7
            refine' lex_free (v := _) rfl rfl rfl ?_ (fun _ _ _ h => h) ?_
            rotate_left
            · rintro W ⟨hW1, hW2, hW3⟩
              go_simp
              with_reducible rfl
            simp only [Act.put, List.setIfInBounds_toArray, List.set_cons_zero, List.set_cons_succ]
          refine lex_free (v := .agg (secC x.2).toArray) rfl rfl rfl (fun W hW => exec_load_mid rfl rfl hW.2.2 Try.underlying31 rfl HI64.out) (fun _ _ _ h => h) ?_
          simp only [Act.put, List.setIfInBounds_toArray, List.set_cons_zero, List.set_cons_succ]
          have hmu := HMU.out
          refine lex_op rfl rfl rfl (fun K hK => ?_)
          go_simp
          refine hK _ _ (fun h => absurd rfl h) ?_
          clear hK K
          refine lex_nil ?_
          go_wp2
          go_roundw
          case rel =>
            refine ⟨k + 1, mput esk' ck' (.int .i64 x.1) (secV x.2), mclock esk' ck' (.int .i64 x.1), by omega, by go_num, ?_, Q2.out.drew.setObj (.inl HH.out.fk) _⟩
            rw [r1_yes HX.out (by rw [List.getElem?_eq_getElem hkl, HKV.out])]
            exact Q1.out.drew.setKept x.1 HXL.out
          case measure => simp [intOf]; omega
        | false =>
          rw [hkv] at hkc2
          have HKV := Lib.hid hkv
          clear hbc hkc hbf hkv
          go_wp2_with (first | (refine wpList_load_big rfl 94 _ rfl g (k * 65) rfl (wrC x) _ HRG.out Try.underlying94 rfl HI65.out ?_) | (refine wpList_alloc_big rfl 94 65 rfl HZ0.out (fun zs hzs => ?_); have HZS := Lib.hid hzs; clear hzs) | (refine wpList_store_new rfl 94 _ _ rfl (wrC x) _ rfl rfl rfl (by rw [HL65.out, HZS.out]) HI65.out (wrC_one _) ?_))
          go_roundw
          case rel =>
            refine ⟨k + 1, esk', ck', by omega, by go_num, ?_, HCH.out.alloc _⟩
            rw [r1_no (by rw [List.getElem?_eq_getElem hkl, HKV.out]; simp)]
            exact HIN.out.alloc _
          case measure => simp [intOf]; omega
      · go_wp2_with (first | (refine wpList_load_big rfl 94 _ rfl g (k * 65) rfl (wrC x) _ HRG.out Try.underlying94 rfl HI65.out ?_) | (refine wpList_alloc_big rfl 94 65 rfl HZ0.out (fun zs hzs => ?_); have HZS := Lib.hid hzs; clear hzs) | (refine wpList_store_new rfl 94 _ _ rfl (wrC x) _ rfl rfl rfl (by rw [HL65.out, HZS.out]) HI65.out (wrC_one _) ?_))
        go_roundw
        case rel =>
          refine ⟨k + 1, esk', ck', by omega, by go_num, ?_, HCH.out.alloc _⟩
          rw [r1_no (by rw [List.getElem?_eq_none (by omega)]; simp)]
          exact HIN.out.alloc _
        case measure => simp [intOf]; omega
    · obtain rfl : k = D.wait.length := by omega
      have HIN := Lib.hid hin; have HCH := Lib.hid hchg
      obtain ⟨d0, d1, d2, d3, d4, d5, d6⟩ := hin.cells
      clear hin hchg hlt c0 c1 c2 c3 c4 c5 c6
      go_wp2
      obtain ⟨wo, hwo⟩ : ∃ wo : World, wo = wr := ⟨_, rfl⟩
      subst hwo
      go_loopw [44] (fun i wr => ∃ (k : Nat) (esn' : Array MapEntry) (cn' : Nat), k ≤ D.wait.length ∧ i = .int .i64 k ∧ DiskIn wr r F (D.r2 ks k) nb kb (.slice ao D.wait.length c) esn' esk' cn' ck' ∧ Chg F w wr) (fun i _ => D.wait.length - (intOf i).toNat)
      case atStart => exact ⟨0, esn, cn, Nat.zero_le _, rfl, HIN.out, HCH.out⟩
      case round =>
        obtain ⟨k, esn', cn', hk, rfl, hin, hchg⟩ := hrel
        by_cases hlt : k < D.wait.length
        · obtain ⟨g, rfl⟩ := HA.out (by omega)
          obtain ⟨x, hx⟩ : ∃ x, D.wait[k]? = some x := ⟨D.wait[k], by simp [hlt]⟩
          have hxl : x.2.length = 64 := HH.out.ok.2.2.2.2.2.2 x (List.mem_of_getElem? hx)
          have hl65 : (wrC x).length = 65 := by simp [hxl]
          have hrow := hin.row
          have hrg : wr.rangeAt g (k * 65) (wrC x) := by
            have := ownsRow_range hrow (k * 65) 65
            rw [show (D.r2 ks k).wait = D.wait from rfl, chunk wrC 65 D.wait (fun y hy => by simp [HH.out.ok.2.2.2.2.2.2 y hy]) k x hx] at this
            exact this
          have hi65 : (Try.prog.info? 94).map (·.size) = some (wrC x).length := by rw [hl65]; exact info_wr1
          have hz0 := info_wr0
          have HIN2 := Lib.hid hin; have HCH2 := Lib.hid hchg; have HRG := Lib.hid hrg; have HI65 := Lib.hid hi65; have HZ0 := Lib.hid hz0; have HX := Lib.hid hx; have HL65 := Lib.hid hl65
          clear hin hchg hrg hi65 hz0 hx hl65 hrow hxl
          go_wp2_with (first | (refine wpList_load_big rfl 94 _ rfl g (k * 65) rfl (wrC x) _ HRG.out Try.underlying94 rfl HI65.out ?_) | (refine wpList_alloc_big rfl 94 65 rfl HZ0.out (fun zs hzs => ?_); have HZS := Lib.hid hzs; clear hzs) | (refine wpList_store_new rfl 94 _ _ rfl (wrC x) _ rfl rfl rfl (by rw [HL65.out, HZS.out]) HI65.out (wrC_one _) ?_))
          obtain ⟨W1, hW1⟩ : ∃ W1, W1 = wr.alloc (.cells (wrC x).toArray 94) := ⟨_, rfl⟩
          rw [← hW1]
          have q1 : DiskIn W1 r F (D.r2 ks k) nb kb (.slice (some ⟨g, 0, none⟩) D.wait.length c) esn' esk' cn' ck' := by subst hW1; exact HIN2.out.alloc _
          have q2 : Chg F w W1 := by subst hW1; exact HCH2.out.alloc _
          have q3 : W1.heap[wr.heap.size]? = some (.cells (wrC x).toArray 94 (0, 0)) := by subst hW1; exact hal_new
          have q4 := q1.cells.2.2.1
          have q7 := q1.cells.2.1
          have q5 : W1.cell? ⟨wr.heap.size, 0, none⟩ = some (.int .i64 x.1) := cell_of_row W1 _ 0 _ _ _ q3
          have q8 := q1.kept
          have hmu := run_mapUpdate (P := Try.prog) (W1.drew) (t := 88) (kt := 3) (et := 31) (d := .int .i64) (k := .int .i64 x.1) (v := .agg (secC ((D.r2 ks k).kept x.1)).toArray) Try.underlying88 Try.underlying3 (by rfl) q1.now q1.nowIs.1
          have Q1 := Lib.hid q1; have Q2 := Lib.hid q2; have HMU := Lib.hid hmu
          clear q1 q2 hW1 hmu q3
          refine wp_region_lex (fun w' => w'.cell? ⟨r, 1, none⟩ = some (.map (some nb)) ∧ w'.cell? ⟨r, 2, none⟩ = some (.map (some kb)) ∧ w'.cell? ⟨wr.heap.size, 0, none⟩ = some (.int .i64 x.1) ∧ w'.heap[kb]? = some (.map esk' ck')) 13 [13] [0, 1, 2, 3, 4, 5, 6, 7, 8, 9, 10, 11, 12, 13] (by kernel_rfl) (by kernel_rfl) ⟨q7, q4, q5, q8⟩ ?_
          clear q8
          iterate 12
            refine' lex_free (v := _) rfl rfl rfl ?_ (fun _ _ _ h => h) ?_
            rotate_left
            · rintro W ⟨hW1, hW2, hW3, _⟩
              go_simp
              with_reducible rfl
            simp only [Act.put, List.setIfInBounds_toArray, List.set_cons_zero, List.set_cons_succ]
          refine lex_free (v := .agg (secC ((D.r2 ks k).kept x.1)).toArray) rfl rfl rfl (fun W hW => exec_lookup rfl rfl rfl (Q1.out.keptIs.look x.1 hW.2.2.2)) (fun _ _ _ h => h) ?_
          simp only [Act.put, List.setIfInBounds_toArray, List.set_cons_zero, List.set_cons_succ]
          have hmu := HMU.out
          refine lex_op rfl rfl rfl (fun K hK => ?_)
          go_simp
          refine hK _ _ (fun h => absurd rfl h) ?_
          clear hK K
          refine lex_nil ?_
          go_wp2
          go_roundw
          case rel =>
            refine ⟨k + 1, mput esn' cn' (.int .i64 x.1) (secV ((D.r2 ks k).kept x.1)), mclock esn' cn' (.int .i64 x.1), by omega, by go_num, ?_, Q2.out.drew.setObj (.inl HH.out.fn) _⟩
            rw [r2_succ HX.out]
            exact Q1.out.drew.setNow x.1 (HIN.out.ok.2.2.2.2.2.1 x.1)
          case measure => simp [intOf]; omega
        · obtain rfl : k = D.wait.length := by omega
          have HIN2 := Lib.hid hin; have HCH2 := Lib.hid hchg
          obtain ⟨d0, d1, d2, d3, d4, d5, d6⟩ := hin.cells
          have f3 := hin.free 3; have f4 := hin.free 4; have f5 := hin.free 5
          clear hin hchg hlt
          go_wp2
          go_end0
          refine ⟨rfl, ?_, ((HCH2.out.setCell (p := ⟨r, 3, none⟩) (.inl HH.out.fr) _).setCell (p := ⟨r, 4, none⟩) (.inl HH.out.fr) _).setCell (p := ⟨r, 5, none⟩) (.inl HH.out.fr) _⟩
          have := ((HIN2.out.setNil).setDown false).setLeft (-1) (by omega) (by omega)
          have h9 : DiskAt _ r F (D.restart ks) := ⟨nb, kb, _, esn', esk', cn', ck', this⟩
          exact h9.mono (fun k hk _ => .inl hk)
end Go.Proofs.Ytihpobpkhhkejaa
