/-
  A sector that begins with some bytes; a copy of bytes that may be many. Conditions: as each lemma says.
-/
import Derived.Test.YtihpobpkhhkejaaWRefE
set_option autoImplicit false
namespace Go.Proofs.Ytihpobpkhhkejaa
open Go Go.RowKit

set_option maxRecDepth 100000 in
set_option maxHeartbeats 1000000 in
theorem sector_any (v : Value) (Z : Nat → Prop) (bs : List Int) (w : World) (h : BytR w Z v bs) :
    Calls Try.prog 43 #[v] w fun e w' => e = .returned (.agg (secC (padTo (bs.take 64))).toArray) ∧ Chg (fun _ => False) w w' := by
  obtain ⟨hby, hmx, ao, c, rfl, hcl⟩ := h
  have HCL := Lib.hid hcl
  have hmx2 : (bs.length : Int) ≤ 9223372036854775807 := by unfold maxLen at hmx; omega
  clear hcl hby hmx
  go_enter Try.func43, Try.ntmps43
  go_wp2_with (refine wpList_alloc_sec rfl rfl ?_)
  obtain ⟨W1, hW1⟩ : ∃ W1, W1 = (w.alloc (.cells (secC sec0).toArray 31)).alloc (.cells (secC sec0).toArray 31) := ⟨_, rfl⟩
  rw [← hW1]
  have g0 : W1.heap[w.heap.size]? = some (.cells (secC sec0).toArray 31 (0, 0)) := by rw [hW1]; exact (hal_old (by simp)).trans hal_new
  have g1 : W1.heap[w.heap.size + 1]? = some (.cells (secC sec0).toArray 31 (0, 0)) := by
    have := hal_new (w := w.alloc (.cells (secC sec0).toArray 31)) (o := .cells (secC sec0).toArray 31)
    rw [hW1]; simpa using this
  have x1 : Chg (fun _ => False) w W1 := by rw [hW1]; exact ((Chg.refl _ _).alloc _).alloc _
  have z1 : W1.heap.size = w.heap.size + 2 := by rw [hW1]; simp
  have G0 := Lib.hid g0; have G1 := Lib.hid g1; have X1 := Lib.hid x1
  clear hW1 g0 g1 x1
  obtain ⟨ck, hck⟩ : ∃ ck, ck = bs.take 64 := ⟨_, rfl⟩
  have hcl : ck.length ≤ 64 ∧ (∀ i : Nat, i < ck.length ↔ i < 64 ∧ i < bs.length) := by
    rw [hck, List.length_take]
    exact ⟨by omega, fun i => by omega⟩
  have CK := Lib.hid hck; have HCK := Lib.hid hcl.2
  have hcl64 := hcl.1
  clear hck hcl
  go_loopw [4] (fun i wr => ∃ j : Nat, j ≤ ck.length ∧ i = .int .i64 j ∧ wr.heap[w.heap.size + 1]? = some (.cells (secC (padTo (ck.take j))).toArray 31 (0, 0)) ∧ Chg (fun x => x = w.heap.size + 1) W1 wr) (fun i _ => 64 - (intOf i).toNat)
  case atStart => exact ⟨0, Nat.zero_le _, rfl, G1.out, Chg.refl _ _⟩
  case round =>
    obtain ⟨j, hj, rfl, hg, hx⟩ := hrel
    have GG := Lib.hid hg; have XX := Lib.hid hx
    clear hg hx
    by_cases hjl : j < ck.length
    · have hj2 := (HCK.out j).1 hjl
      obtain ⟨b, o, rfl, hb, hcells⟩ := HCL.out (by omega)
      have hcb : wr.cell? ⟨b, o + j, none⟩ = some (.int .u8 ck[j]) := by
        have h1 := hcells j hj2.2
        have h2 : ck[j] = bs[j] := by
          have hq : ck[j]? = some bs[j] := by
            rw [CK.out, List.getElem?_take_of_lt (by omega)]
            exact List.getElem?_eq_getElem hj2.2
          rw [List.getElem?_eq_getElem hjl] at hq
          exact Option.some.inj hq
        rw [h2]
        have hbl := hb.1
        exact (cell_of_heap ((XX.out.keep b (by omega) (fun h => by omega)).trans (X1.out.keep b hbl (fun h => h)))).trans h1
      have htl : (ck.take j).length = j := by rw [List.length_take]; omega
      have hcs : wr.cell? ⟨w.heap.size + 1, j, none⟩ = some (.int .u8 0) := by
        rw [cell_of_row wr _ j _ _ _ GG.out]
        have := pad_nth (ck.take j) j (by omega) (by omega)
        simpa using this
      have hfs : wr.frozen? ⟨w.heap.size + 1, j, none⟩ = false := frozen_of_row wr _ j _ _ GG.out
      have hps := pad_set (ck.take j) ck[j] (by omega)
      rw [htl, ← List.take_succ_eq_append_getElem (by omega)] at hps
      have HPS := Lib.hid hps
      clear hps hcells hb
      generalize ck[j] = y at *
      go_wp2
      go_roundw
      case rel =>
        refine ⟨j + 1, by omega, by go_num, ?_, XX.out.setCell (p := ⟨w.heap.size + 1, j, none⟩) (.inl rfl) _⟩
        rw [hset_eq GG.out, HPS.out]
      case measure => simp [intOf]; omega
    · have hnot : bs.length ≤ j ∨ (j < bs.length ∧ j = 64) := by
        have := HCK.out j
        have h64 := hcl64
        by_cases h : j < bs.length
        · exact .inr ⟨h, by omega⟩
        · exact .inl (by omega)
      have g5 : wr.heap[w.heap.size + 1]? = some (.cells (secC (padTo ck)).toArray 31 (0, 0)) := by
        have h1 := GG.out
        rw [List.take_of_length_le (by omega)] at h1
        exact h1
      have g6 := XX.out.heap G0.out (fun h => by omega)
      have x5 : Chg (fun _ => False) w wr := X1.out.trans XX.out (fun k hk => .inr (by omega))
      have hsl : (secC (padTo ck)).length = 64 := by rw [secC_len]; exact padTo_len hcl64
      have HI := Lib.hid (show (Try.prog.info? 31).map (·.size) = some (secC (padTo ck)).length by rw [hsl]; exact info_sec)
      have G5 := Lib.hid g5; have G6 := Lib.hid g6; have X5 := Lib.hid x5
      have HZ := Lib.hid (show ((secC sec0).toArray : Array Value).size = (secC (padTo ck)).length by rw [hsl]; simp [sec0_len])
      clear g5 g6 x5 hsl
      rcases hnot with hnot | ⟨hnot, hnot2⟩
      all_goals
        go_wp2_with (first | (refine wpList_load_big rfl 31 _ rfl (w.heap.size + 1) 0 rfl (secC (padTo ck)) _ (range_block G5.out) Try.underlying31 rfl HI.out ?_) | (refine wpList_store_row rfl 31 _ _ rfl w.heap.size (secC (padTo ck)).toArray rfl rfl 31 (secC sec0).toArray G6.out HI.out HZ.out (all_oneCell_toArray (secC_one _)) ?_))
        refine bodyPost_ret (results_big1 rfl _ _ w.heap.size (secC (padTo ck)) _ rfl (row_range G6.out) Try.underlying31 rfl HI.out) rfl ?_
        rw [← CK.out]
        exact ⟨rfl, X5.out.setRow (.inr (Nat.le_refl _)) _⟩
theorem nsc_zero (m : Nat) (h : 0 < m) : Builtin.nextslicecap m 0 = m := by
  unfold Builtin.nextslicecap
  simp [h]
/-- a copy of bytes that may be many -/
theorem run_copyB (w : World) (ty : TypeId) (blk : Nat) (hb0 : w.heap[blk]? = some (.cells #[] 5 (0, 0))) (ao : Option Addr) (c : Nat) (ys : List Int) (hnone : ao = none → ys.length = 0) (hb : ∀ ad, ao = some ad → ∀ j, (hj : j < ys.length) → w.cell? (ad.add j) = some (.int .u8 ys[j]))
    (hlen : ys.length ≤ 140737488355328) :
    ∃ v' w', (Builtin.append_ #[22, 22] ty #[.slice (some ⟨blk, 0, none⟩) 0 0, .slice ao ys.length c]).run Try.prog w = .ok v' w' ∧ Byts w' blk v' ys ∧ Chg (fun _ => False) w w' ∧ (∀ g, v'.ownBlock = some g → g = blk ∨ g = w.heap.size) := by
  obtain ⟨i0, z0, hi0, hz0, hs0, hb1, hzs0⟩ := u8_info
  have hbl := lt_of_heap hb0
  by_cases h0 : ys.length = 0
  · obtain rfl : ys = [] := List.eq_nil_of_length_eq_zero h0
    have ho : w.ownsRow 0 5 1 (.slice (some ⟨blk, 0, none⟩) 0 0) 0 [] := ⟨rfl, .inr ⟨blk, 0, #[], rfl, Nat.zero_le _, hb0, Nat.le_refl _, by unfold maxLen; omega, rfl, rfl⟩⟩
    obtain ⟨v', w', hr, h1, h2, h3, h4, _⟩ := run_app (P := Try.prog) w 22 ty 5 i0 z0 1 1 Try.underlying22 hi0 hz0 hs0 hb1 hzs0 _ 0 [] ho ao 0 c [] rfl (fun _ => rfl) (fun _ _ j u hj => by simp at hj) (fun u hu => by cases hu) (by unfold maxLen; omega) (by omega)
    obtain ⟨rfl, rfl⟩ := h4 rfl
    exact ⟨_, _, hr, ⟨h1, fun g hg => by have : blk = g := Option.some.inj hg; omega⟩, Chg.refl _ _, fun g hg => .inl (Option.some.inj hg).symm⟩
  · obtain ⟨a, rfl⟩ : ∃ a, ao = some a := by
      cases ao with
      | none => exact absurd (hnone rfl) h0
      | some a => exact ⟨a, rfl⟩
    have hr := run_append_grow (P := Try.prog) w 22 ty 5 i0 z0 Try.underlying22 hi0 hz0 ⟨blk, 0, none⟩ 0 0 [] (by simp) (by simp) a ys.length c (ys.map (Value.int .u8)) (by simp [hs0]) (fun j u hu => by
      rw [List.getElem?_map] at hu
      obtain ⟨y, hy, rfl⟩ := Option.map_eq_some_iff.1 hu
      obtain ⟨hj, rfl⟩ := List.getElem?_eq_some_iff.1 hy
      exact hb a rfl j hj) (by omega) (by omega) (by rw [Nat.zero_add, nsc_zero _ (by omega), hb1]; omega)
    have hge := grownCap_ge w (0 + ys.length) 0 5
    have hcm : grownCap w (0 + ys.length) 0 5 ≤ maxLen := grownCap_le_maxLen w (0 + ys.length) 0 5 (by unfold maxLen; omega)
    rw [Nat.zero_add] at hr hge hcm
    refine ⟨_, _, hr, ⟨?_, fun g hg => ?_⟩, ?_, fun g hg => ?_⟩
    · refine ⟨by simp, .inr ⟨w.heap.size, _, _, rfl, Nat.zero_le _, hal_new (w := w.drew), hge, hcm, ?_, ?_⟩⟩
      · simp only [Array.size_append, List.size_toArray, size_zeroCells, hzs0, List.length_nil, List.length_map]
        omega
      · simp
    · have : w.heap.size = g := Option.some.inj hg
      omega
    · exact (Chg.refl _ _).drew.alloc _
    · exact .inr (Option.some.inj hg).symm
theorem wp_copyB {o : Oper} {a : Act} {K : Act → World → Prop} {Q : Exit → Act → World → Prop} {w : World} (s x : Operand)
    (ho : o.op = .call { callee := .builtin .append, args := #[s, x], argTypes := #[22, 22] }) (blk : Nat) (hs : a.eval s = .slice (some ⟨blk, 0, none⟩) 0 0) (hb0 : w.heap[blk]? = some (.cells #[] 5 (0, 0))) (ao : Option Addr) (n c : Nat) (ys : List Int) (hn : n = ys.length) (hx : a.eval x = .slice ao n c)
    (hnone : ao = none → ys.length = 0) (hb : ∀ ad, ao = some ad → ∀ j, (hj : j < ys.length) → w.cell? (ad.add j) = some (.int .u8 ys[j])) (hlen : ys.length ≤ 140737488355328)
    (k : ∀ v' w', Byts w' blk v' ys → Chg (fun _ => False) w w' → (∀ g, v'.ownBlock = some g → g = blk ∨ g = w.heap.size) → K (a.put o.dst v') w') : o.wp Try.prog a w K Q := by
  obtain ⟨v', w', hr, h1, h2, h3⟩ := run_copyB w o.type blk hb0 ao c ys hnone hb hlen
  unfold Oper.wp execOp
  simp only [ho, resolve, invoke, builtin, Sem.run_bind, Sem.run_pure, Result.andThen_ok, List.map_toArray, List.map_cons, List.map_nil, hs, hx, hn, hr]
  exact k v' w' h1 h2 h3
theorem wpList_copyB {ops : Array Oper} {rest : List Oper} {o : Oper} {a : Act} {Q : Exit → Act → World → Prop} {w : World} (hgd : o.guard = none) (s x : Operand)
    (ho : o.op = .call { callee := .builtin .append, args := #[s, x], argTypes := #[22, 22] }) (blk : Nat) (hs : a.eval s = .slice (some ⟨blk, 0, none⟩) 0 0) (hb0 : w.heap[blk]? = some (.cells #[] 5 (0, 0))) (ao : Option Addr) (n c : Nat) (ys : List Int) (hn : n = ys.length) (hx : a.eval x = .slice ao n c)
    (hnone : ao = none → ys.length = 0) (hb : ∀ ad, ao = some ad → ∀ j, (hj : j < ys.length) → w.cell? (ad.add j) = some (.int .u8 ys[j])) (hlen : ys.length ≤ 140737488355328)
    (k : ∀ v' w', Byts w' blk v' ys → Chg (fun _ => False) w w' → (∀ g, v'.ownBlock = some g → g = blk ∨ g = w.heap.size) → wpList Try.prog ops Q rest (a.put o.dst v') w') : wpList Try.prog ops Q (o :: rest) a w :=
  wpList_plain hgd fun _ hK => wp_copyB s x ho blk hs hb0 ao n c ys hn hx hnone hb hlen fun v' w' h1 h2 h3 => hK _ _ (k v' w' h1 h2 h3)
end Go.Proofs.Ytihpobpkhhkejaa
