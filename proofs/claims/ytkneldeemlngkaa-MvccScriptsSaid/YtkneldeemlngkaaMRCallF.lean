/-
  The walk of the document's New. Condition: the list that it is handed can be read.
-/
import Derived.Test.YtkneldeemlngkaaMRCallE
import Derived.Deep.DeepCutAuto
set_option autoImplicit false
namespace Go.Proofs.Ytkneldeemlngkaa
open Go Go.RowKit

def RNewPost (nx mo : Int) (V : Nat → Int) (len : Nat) (w : World) (e : Ending) (w' : World) : Prop :=
  (NewOk nx mo V len ∧ ∃ b, e = .returned (.tuple #[.pointer (some ⟨b, 0, none⟩), .int .i64 0]) ∧ RBookAt w' b (Ext (fun _ => False) w w') (RBk.start nx mo V len) ∧ Chg (fun _ => False) w w') ∨
  (¬ NewOk nx mo V len ∧ e = .returned (.tuple #[.pointer none, .int .i64 1]) ∧ Chg (fun _ => False) w w')
set_option maxRecDepth 100000 in
set_option maxHeartbeats 2000000 in
theorem rnew_any (nx mo : Int) (ao : Option Addr) (len cap : Nat) (V : Nat → Int) (w : World) (hm : len ≤ 9223372036854775807) (h : SlRd w ao len 1 (fun i _ => .int .i64 (V i))) :
    Calls Try.prog 12 #[.int .i64 nx, .int .i64 mo, .slice ao len cap] w fun e w' => RNewPost nx mo V len w e w' := by
  have HR := Lib.hid h
  clear h
  by_cases h1 : nx < 1
  · go_enter Try.func12, Try.ntmps12
    go_wp2
    go_ret2
    exact .inr ⟨fun hh => by have := hh.n1; omega, rfl, Chg.refl _ _⟩
  · by_cases h2 : mo < 0
    · go_enter Try.func12, Try.ntmps12
      go_wp2
      go_ret2
      exact .inr ⟨fun hh => by have := hh.m0; omega, rfl, Chg.refl _ _⟩
    · by_cases h3 : 16777216 < mo
      · go_enter Try.func12, Try.ntmps12
        go_wp2
        go_ret2
        exact .inr ⟨fun hh => by have := hh.m1; omega, rfl, Chg.refl _ _⟩
      · by_cases h4 : mo + 1 < nx
        · go_enter Try.func12, Try.ntmps12
          go_wp2
          go_ret2
          exact .inr ⟨fun hh => by have := hh.n2; omega, rfl, Chg.refl _ _⟩
        · obtain ⟨n, rfl⟩ : ∃ n : Nat, nx = n := ⟨nx.toNat, by omega⟩
          have hm0 : Made w (w.alloc (.cells #[.slice none 0 0, .int .i64 mo] 49)) w.heap.size mo (.slice none 0 0) (mkTx (fun _ => 3) 0) :=
            ⟨hal_new, World.ownsRow_nil _ _ _ _, fun g hg => by simp [Value.ownBlock] at hg, Nat.le_refl _, (Chg.refl _ _).alloc _⟩
          have M0 := Lib.hid hm0
          clear hm0
          go_enter Try.func12, Try.ntmps12
          go_wp2
          go_loopw [9] (fun s9 wr => ∃ (k : Nat) (v : Value), k ≤ n ∧ s9 = .int .i64 k ∧ Made w wr w.heap.size mo v (mkTx (fun _ => 3) k)) (fun s9 _ => n - (intOf s9).toNat)
          case atStart => exact ⟨0, _, Nat.zero_le _, rfl, M0.out⟩
          case round =>
            clear M0
            obtain ⟨k, v, hk, rfl, hmd⟩ := hrel
            obtain ⟨vo, vc, rfl, _⟩ := ownsRow_form hmd.row
            have c0 := cell_of_row wr w.heap.size 0 _ _ _ hmd.self
            rw [mkTx_len] at c0 hmd
            have MD := Lib.hid hmd
            by_cases hlt : k < n
            · have xa : Chg (fun _ => False) wr (wr.alloc (.cells #[.int .i64 3, .slice none 0 0, .bool true] 63)) := (Chg.refl _ _).alloc _
              have M6 := Lib.hid (MD.out.quiet xa)
              clear hmd xa
              go_wp2_with (at_builtin; refine tx_app rfl _ _ rfl (.slice vo k vc) (mkTx (fun _ => 3) k) rfl M6.out.row wr.heap.size ⟨3, [], true⟩ (.slice none 0 0) rfl hal_new rfl (by rw [mkTx_len]; omega) ?_)
              intro v8 w8 row8 grow8 own8 g2 cap2 hf8
              rw [mkTx_len] at hf8
              subst hf8
              have hrow : w8.ownsRow 0 63 3 (.slice (some ⟨g2, 0, none⟩) (k + 1) cap2) (mkTx (fun _ => 3) (k + 1)).length ((mkTx (fun _ => 3) (k + 1)).flatMap txC) := by
                rw [mkTx_succ, List.length_append, List.flatMap_append]
                simpa using row8
              have c68 := (Chg.refl (fun q => (Value.slice vo k vc).ownBlock = some q) _).grown grow8 (fun k hk => .inl hk)
              have self8 := c68.heap M6.out.self (fun e => (M6.out.own _ e).2 rfl)
              have d0 := cell_of_row w8 w.heap.size 0 _ _ _ self8
              have f0 := frozen_of_row w8 w.heap.size 0 _ _ self8
              have M8 := Lib.hid (M6.out.push hrow grow8 (by
                rcases own8 with h9 | h9
                · exact .inl h9
                · exact .inr (by rw [h9]; simp)))
              clear row8 grow8 own8 c68 self8 hrow c0
              go_wp2
              go_roundw
              case rel => exact ⟨k + 1, _, by omega, by go_num, M8.out⟩
              case measure => simp only [intOf]; omega
            · obtain rfl : k = n := by omega
              clear hmd c0
              have M1 := Lib.hid (show Made w wr w.heap.size mo (.slice vo k vc) (mkTx (fun t => if isIn V 0 t then 2 else 3) k) by
                have e : mkTx (fun t => if isIn V 0 t then 2 else 3) k = mkTx (fun _ => 3) k := mkTx_congr (fun t _ => by simp [isIn])
                rw [e]
                exact MD.out)
              obtain ⟨vo', hvo⟩ : ∃ g, vo = some ⟨g, 0, none⟩ := by
                obtain ⟨_, _, e2, e3⟩ := ownsRow_form MD.out.row
                rw [mkTx_len] at e2 e3
                obtain ⟨g, hg⟩ := e3 (by omega)
                injection e2 with e4 _ _
                exact ⟨g, by rw [e4, hg]⟩
              subst hvo
              clear MD
              go_wp2
              go_loopw [10] (fun s10 wz => ∃ i : Nat, i ≤ len ∧ s10 = .int .i64 i ∧ (∀ j, j < i → outOf k (V j) = false) ∧ Made w wz w.heap.size mo (.slice (some ⟨vo', 0, none⟩) k vc) (mkTx (fun t => if isIn V i t then 2 else 3) k)) (fun s10 _ => len - (intOf s10).toNat)
              case atStart => exact ⟨0, Nat.zero_le _, rfl, fun j hj => by omega, M1.out⟩
              case round =>
                clear M1
                obtain ⟨i, hi, rfl, hall, hmd⟩ := hrel
                have c0 := cell_of_row wr w.heap.size 0 _ _ _ hmd.self
                have MD := Lib.hid hmd; have HA := Lib.hid hall
                clear hmd hall
                by_cases hil : i < len
                · obtain ⟨b, off, rfl, hbl, hc⟩ := HR.out (by omega)
                  have hcv := (cell_of_heap (MD.out.chg.keep b hbl (fun h => h))).trans (hc i 0 hil (by omega))
                  simp only [Nat.mul_one, Nat.add_zero] at hcv
                  clear hc
                  by_cases q1 : V i < 1
                  · have hb : ¬ NewOk k mo V len := fun hh => by
                      have := hh.all i hil
                      unfold outOf at this
                      rw [decide_eq_true q1] at this
                      cases this
                    generalize V i = vi at *
                    go_wp2
                    go_ret2
                    exact .inr ⟨hb, rfl, MD.out.chg⟩
                  · by_cases q2 : (k : Int) ≤ V i
                    · have hb : ¬ NewOk k mo V len := fun hh => by
                        have := hh.all i hil
                        unfold outOf at this
                        rw [decide_eq_true q2, Bool.or_true] at this
                        cases this
                      generalize V i = vi at *
                      go_wp2
                      go_ret2
                      exact .inr ⟨hb, rfl, MD.out.chg⟩
                    · obtain ⟨q, hq⟩ : ∃ q : Nat, V i = q := ⟨(V i).toNat, by omega⟩
                      have hqk : q < k := by omega
                      have HQ := Lib.hid hq
                      rw [hq] at hcv q1 q2
                      obtain ⟨cur, hcur⟩ := ownsRow_heap MD.out.row (g := vo') rfl
                      have hq0 : wr.cell? ⟨vo', q * 3, none⟩ = some (.int .i64 (if isIn V i q then 2 else 3)) := by
                        have h9 := txC_at (mkTx (fun t => if isIn V i t then 2 else 3) k) q 0 _ (mkTx_get _ hqk) (by omega)
                        have h8 := MD.out.row.cells (g := vo') rfl (q * 3 + 0) _ h9
                        rw [Addr.add_mid] at h8
                        simpa using h8
                      have hfr := frozen_of_row wr vo' (q * 3) _ _ hcur
                      obtain ⟨W5, hW5⟩ : ∃ W5, W5 = wr.drew := ⟨_, rfl⟩
                      have MS := Lib.hid (show Made w W5 w.heap.size mo (.slice (some ⟨vo', 0, none⟩) k vc) (mkTx (fun t => if isIn V i t then 2 else 3) k) by rw [hW5]; exact MD.out.quiet ((Chg.refl (fun _ => False) wr).drew))
                      have e0 : W5.cell? ⟨w.heap.size, 0, none⟩ = some (.slice (some ⟨vo', 0, none⟩) k vc) := by rw [hW5]; exact c0
                      have e1 : W5.cell? ⟨b, off + i, none⟩ = some (.int .i64 q) := by rw [hW5]; exact hcv
                      have e2 : W5.cell? ⟨vo', q * 3, none⟩ = some (.int .i64 (if isIn V i q then 2 else 3)) := by rw [hW5]; exact hq0
                      have e3 : W5.frozen? ⟨vo', q * 3, none⟩ = false := by rw [hW5]; exact hfr
                      have HW5 := Lib.hid hW5
                      clear hcur hq hW5 hq0 hfr
                      go_upto_region 13 with (fail)
                      refine wp_region_lex (fun w' => w' = W5) 10 [10] [0, 1, 2, 3, 4, 5, 6, 7, 8, 9, 10] (by kernel_rfl) (by kernel_rfl) HW5.out.symm ?_
                      rw [← HW5.out]
                      clear c0 hcv
                      iterate 10
                        refine' lex_free (v := _) rfl rfl rfl ?_ (fun _ _ _ h => h) ?_
                        rotate_left
                        · rintro W rfl
                          go_simp
                          with_reducible rfl
                        try simp only [Act.put, List.setIfInBounds_toArray, List.set_cons_zero, List.set_cons_succ]
                      refine lex_op rfl rfl rfl (fun K hK => ?_)
                      go_simp
                      refine hK _ _ (fun h => absurd rfl h) ?_
                      clear hK K
                      try simp only [Act.put, List.setIfInBounds_toArray, List.set_cons_zero, List.set_cons_succ]
                      refine lex_nil ?_
                      have MF := Lib.hid (MS.out.set (g := vo') rfl hqk 2)
                      clear e0 e1 e2 e3
                      go_wp2
                      go_roundw
                      case rel =>
                        refine ⟨i + 1, by omega, by go_num, fun j hj => ?_, ?_⟩
                        · rcases Nat.lt_or_ge j i with h9 | h9
                          · exact HA.out j h9
                          · obtain rfl : j = i := by omega
                            rw [HQ.out]
                            unfold outOf
                            rw [decide_eq_false (by omega), decide_eq_false (by omega)]
                            rfl
                        · have e : mkTx (fun t => if isIn V (i + 1) t then 2 else 3) k = mkTx (fun t => if t = q then 2 else if isIn V i t then 2 else 3) k := mkTx_congr (fun t _ => by
                            simp only [isIn_succ, HQ.out]
                            by_cases ht : (t : Int) = q
                            · simp [ht]
                            · have h9 : ((q : Int) == (t : Int)) = false := beq_eq_false_iff_ne.2 (fun h => ht h.symm)
                              simp [ht, h9])
                          rw [e]
                          exact MF.out
                      case measure => simp only [intOf]; omega
                · obtain rfl : i = len := by omega
                  have hok : NewOk k mo V i := ⟨by omega, by omega, by omega, by omega, HA.out⟩
                  obtain ⟨cur, hcur⟩ := ownsRow_heap MD.out.row (g := vo') rfl
                  have hq0 : wr.cell? ⟨vo', 0, none⟩ = some (.int .i64 (if isIn V i 0 then 2 else 3)) := by
                    have h9 := txC_at (mkTx (fun t => if isIn V i t then 2 else 3) k) 0 0 _ (mkTx_get _ (by omega)) (by omega)
                    have h8 := MD.out.row.cells (g := vo') rfl (0 * 3 + 0) _ h9
                    rw [Addr.add_mid] at h8
                    simpa using h8
                  have hfr := frozen_of_row wr vo' 0 _ _ hcur
                  have MF := Lib.hid (MD.out.set (g := vo') (k := 0) rfl (by omega) 0)
                  have HOK := Lib.hid hok
                  clear hcur hok
                  go_wp2
                  go_ret2
                  refine .inl ⟨HOK.out, w.heap.size, rfl, ?_, MF.out.chg⟩
                  have hb := MF.out.book (by omega) (by omega) (by omega)
                  rw [start_mk]
                  have e : mkTx (fun t => if t = 0 then 0 else if isIn V i t then 2 else 3) (k : Int).toNat = mkTx (fun t => if t = ((0 : Nat) : Int) then 0 else if isIn V i t then 2 else 3) k := by
                    rw [Int.toNat_natCast]
                    rfl
                  rw [e]
                  exact hb
end Go.Proofs.Ytkneldeemlngkaa
