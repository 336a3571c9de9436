/-
  What slices.Clone does with bytes, and what the log's records reads out of bytes. Conditions: as each lemma says.
-/
import Derived.Test.YtihpobpkhhkejaaWFlush
set_option autoImplicit false
namespace Go.Proofs.Ytihpobpkhhkejaa
open Go Go.RowKit

theorem bclone_any (v : Value) (Z : Nat → Prop) (xs : List Int) (w : World) (h : BytR w Z v xs) (hn : xs.length < 20000000000000) :
    Calls Try.prog 62 #[v] w fun e w' => ∃ v', e = .returned v' ∧ Byts w' w.heap.size v' xs ∧ Chg (fun _ => False) w w' := by
  obtain ⟨ao, c, n, rfl⟩ : ∃ ao c n, v = .slice ao n c := by obtain ⟨_, _, ao, c, e, _⟩ := h; exact ⟨ao, c, _, e⟩
  obtain ⟨hnx, hnone, hcell⟩ := h.get
  rw [← hnx] at hn
  have hq := fun w => Lib.run_eql_slice_nil (P := Try.prog) w 22 _ ao n c 0 0 Try.underlying22
  obtain ⟨nw, hnw⟩ : ∃ nw, nw = xs.map (Value.int .u8) := ⟨_, rfl⟩
  have hnl : nw.length = n := by rw [hnw, hnx]; simp
  have hn1 : ∀ u ∈ nw, u.oneCell' = true := by rw [hnw]; intro u hu; obtain ⟨y, _, rfl⟩ := List.mem_map.1 hu; rfl
  have hc2 : ∀ ad, ao = some ad → ∀ j u, nw[j]? = some u → (w.alloc (.cells #[] 5)).cell? (ad.add j) = some u := by
    intro ad had j u hj
    rw [hnw, List.getElem?_map] at hj
    obtain ⟨y, hy, rfl⟩ := Option.map_eq_some_iff.1 hj
    obtain ⟨hj2, rfl⟩ := List.getElem?_eq_some_iff.1 hy
    have := hcell ad had j hj2
    rw [World.cell?_alloc_lt _ _ _ (World.block_lt_of_cell? w _ this)]
    exact this
  have HN := Lib.hid hnone; have HC := Lib.hid hc2; have HNX := Lib.hid hnx; have HNW := Lib.hid hnw; have HNL := Lib.hid hnl; have HN1 := Lib.hid hn1
  clear h hnone hcell hc2 hnx hnw hnl hn1
  cases ao with
  | none =>
    have h0 := HN.out rfl
    go_enter Try.func62, Try.ntmps62
    go_wp2
    go_ret
    obtain rfl : xs = [] := List.eq_nil_of_length_eq_zero h0
    exact ⟨_, rfl, Byts.nil _ _, Chg.refl _ _⟩
  | some a =>
    obtain ⟨i0, z0, hi0, hz0, hs0, hb0, hzs0⟩ := u8_info
    have HI0 := Lib.hid hi0; have HZ0 := Lib.hid hz0; have HS0 := Lib.hid hs0; have HB0 := Lib.hid hb0; have HZS0 := Lib.hid hzs0
    clear hi0 hz0 hs0 hb0 hzs0
    have ho : (w.alloc (.cells #[] 5)).ownsRow 0 5 1 (.slice (some ⟨w.heap.size, 0, none⟩) 0 0) 0 [] := World.ownsRow_made w #[] 0 (Nat.zero_le _) (Nat.zero_le _) (by simp)
    have HO := Lib.hid ho
    clear ho
    go_enter Try.func62, Try.ntmps62
    go_wp2_with (at_builtin; refine wpList_app _ rfl _ _ 22 rfl 5 i0 z0 1 1 Try.underlying22 HI0.out HZ0.out HS0.out HB0.out HZS0.out _ 0 [] rfl HO.out _ n c nw rfl ?_ (fun h => by cases h) HC.out HN1.out ?_ ?_ ?_)
    · rw [HNL.out, Nat.mul_one]
    · unfold maxLen; omega
    · omega
    · intro v' w1 r1 g1 hat _ _
      have hb : ∀ g, v'.ownBlock = some g → w.heap.size ≤ g := fun g hg => by
        rcases hat with h | h
        · rw [h] at hg; simp [Value.ownBlock] at hg; omega
        · rw [h] at hg; simp at hg; omega
      have hc : Chg (fun _ => False) w w1 := (((Chg.refl (fun k => w.heap.size ≤ k) w).alloc _).grown g1 (fun k hk => by simp [Value.ownBlock] at hk; subst hk; exact .inr (Nat.le_refl _))).mono (fun x hx => .inr hx)
      have HR := Lib.hid r1; have HB := Lib.hid hb; have HC := Lib.hid hc
      clear r1 g1 hat hb hc
      go_wp2
      go_ret
      refine ⟨_, rfl, ⟨?_, HB.out⟩, HC.out⟩
      have := HR.out
      rw [HNW.out, HNX.out] at this
      exact this
theorem u8s_infoB : (Try.prog.info? 22).map (fun i => (i.size, i.bytes, (i.zero.getD undef).cells.size, i.zero.isSome)) = some (1, 24, 1, true) := by kernel_rfl
theorem u8s_info : ∃ i z, Try.prog.info? 22 = some i ∧ i.zero = some z ∧ i.size = 1 ∧ i.bytes = 24 ∧ z.cells.size = 1 := by
  obtain ⟨i, hi, hzz⟩ := Option.map_eq_some_iff.1 u8s_infoB
  simp only [Prod.mk.injEq] at hzz
  obtain ⟨z, hz⟩ := Option.isSome_iff_exists.1 hzz.2.2.2
  refine ⟨i, z, hi, hz, hzz.1, hzz.2.1, ?_⟩
  have := hzz.2.2.1
  rw [hz] at this
  exact this
theorem Byts.read {w : World} {Z : Nat → Prop} {lo : Nat} {v : Value} {xs : List Int} (h : Byts w lo v xs) (hb : Bytes xs) (ho : ∀ g, v.ownBlock = some g → ¬ Z g) : BytR w Z v xs := by
  obtain ⟨ao, c, e, hf⟩ := h.form
  refine ⟨hb, by have := h.len_le; unfold maxLen; omega, ao, c, e, fun hp => ?_⟩
  obtain ⟨g, rfl, hg, hc⟩ := hf hp
  exact ⟨g, 0, rfl, ⟨h.lt hg, ho g hg⟩, fun j hj => by rw [Nat.zero_add]; exact hc j hj⟩
/-- one more row of bytes -/
theorem run_recs (w : World) (ty : TypeId) (Z : Nat → Prop) (v : Value) (rs : List (List Int)) (us : List Value) (h : RecsM w Z v rs us) (blk : Nat) (u : Value) (y : List Int)
    (hb : w.heap[blk]? = some (.cells #[u] 22 (0, 0))) (hu : BytR w (fun k => Z k ∨ v.ownBlock = some k) u y) (hlen : rs.length < 500000000000) (hZ : ¬ Z w.heap.size) :
    ∃ v' w', (Builtin.append_ #[65, 65] ty #[v, .slice (some ⟨blk, 0, none⟩) 1 1]).run Try.prog w = .ok v' w' ∧ RecsM w' Z v' (rs ++ [y]) (us ++ [u]) ∧ Chg (fun k => v.ownBlock = some k) w w' ∧ (∀ g, v'.ownBlock = some g → v.ownBlock = some g ∨ g = w.heap.size) := by
  obtain ⟨i0, z0, hi0, hz0, hs0, hb0, hzs0⟩ := u8s_info
  have hu1 : u.oneCell' = true := by obtain ⟨_, _, ao, c, rfl, _⟩ := hu; rfl
  obtain ⟨v', w', hr, h1, h2, h3, _, _⟩ := run_app (P := Try.prog) w 65 ty 22 i0 z0 1 24 Try.underlying65 hi0 hz0 hs0 hb0 hzs0 v rs.length us h.row (some ⟨blk, 0, none⟩) 1 1 [u] rfl (fun h => by cases h) (fun ad had => by
    obtain rfl := Option.some.inj had
    exact World.news_of_block hb) (by simpa using hu1) (by unfold maxLen; omega) (by omega)
  have hlo' : ∀ g, v'.ownBlock = some g → v.ownBlock = some g ∨ g = w.heap.size := fun g hg => by
    rcases h3 with h4 | h4
    · exact .inl (by rw [← h4]; exact hg)
    · rw [h4] at hg; exact .inr (by simpa using hg.symm)
  have c : Chg (fun k => v.ownBlock = some k) w w' := (Chg.refl (fun k => v.ownBlock = some k) w).grown h2 (fun k hk => .inl hk)
  have hst : ∀ x xs, BytR w (fun k => Z k ∨ v.ownBlock = some k) x xs → BytR w' (fun k => Z k ∨ v'.ownBlock = some k) x xs := fun x xs hx => by
    refine (hx.grow (Z' := fun k => (Z k ∨ v.ownBlock = some k) ∨ w.heap.size ≤ k) ⟨c.mono (fun k hk => .inl (.inr hk)), fun k hk => hk⟩).weaken (fun k _ hk => ?_)
    rcases hk with hk | hk
    · exact .inl (.inl hk)
    · rcases hlo' k hk with h5 | h5
      · exact .inl (.inr h5)
      · exact .inr (by omega)
  refine ⟨v', w', hr, ⟨by simpa using h1, fun g hg => ?_, fun j hj => ?_⟩, c, hlo'⟩
  · rcases hlo' g hg with h4 | h4
    · exact h.out g h4
    · rw [h4]; exact hZ
  · by_cases hj2 : j < rs.length
    · obtain ⟨x, hx, hxb⟩ := h.each j hj2
      have hul : us.length = rs.length := by have := h.row.1; omega
      exact ⟨x, by rw [List.getElem?_append_left (by omega)]; exact hx, by rw [List.getElem_append_left hj2]; exact hst _ _ hxb⟩
    · have hje : j = rs.length := by simp at hj; omega
      subst hje
      have hul : us.length = rs.length := by have := h.row.1; omega
      refine ⟨u, by rw [← hul]; simp, ?_⟩
      rw [List.getElem_append_right (Nat.le_refl _)]
      simpa using hst _ _ hu
theorem recs_app {ops : Array Oper} {rest : List Oper} {o : Oper} {a : Act} {Q : Exit → Act → World → Prop} {w : World} (hgd : o.guard = none) (s x : Operand)
    (ho : o.op = .call { callee := .builtin .append, args := #[s, x], argTypes := #[65, 65] }) (Z : Nat → Prop) (v : Value) (rs : List (List Int)) (us : List Value) (hs : a.eval s = v) (h : RecsM w Z v rs us) (blk : Nat) (u : Value) (y : List Int) (hx : a.eval x = .slice (some ⟨blk, 0, none⟩) 1 1)
    (hb : w.heap[blk]? = some (.cells #[u] 22 (0, 0))) (hu : BytR w (fun k => Z k ∨ v.ownBlock = some k) u y) (hlen : rs.length < 500000000000) (hZ : ¬ Z w.heap.size)
    (k : ∀ v' w', RecsM w' Z v' (rs ++ [y]) (us ++ [u]) → Chg (fun k => v.ownBlock = some k) w w' → (∀ g, v'.ownBlock = some g → v.ownBlock = some g ∨ g = w.heap.size) → wpList Try.prog ops Q rest (a.put o.dst v') w') : wpList Try.prog ops Q (o :: rest) a w := by
  obtain ⟨v', w', hr, h1, h2, h3⟩ := run_recs w o.type Z v rs us h blk u y hb hu hlen hZ
  refine wpList_plain hgd fun _ hK => ?_
  unfold Oper.wp execOp
  simp only [ho, resolve, invoke, builtin, Sem.run_bind, Sem.run_pure, Result.andThen_ok, List.map_toArray, List.map_cons, List.map_nil, hs, hx, hr]
  exact hK _ _ (k v' w' h1 h2 h3)
end Go.Proofs.Ytihpobpkhhkejaa
