/-
  Slices of bytes that a call has made for itself: how they are read and appended to. No condition beyond each lemma's own.
-/
import Derived.Test.YtihpobpkhhkejaaProg
import Derived.Test.YtihpobpkhhkejaaBase
import Derived.KernelRfl
import Derived.Test.YtihpobpkhhkejaaWBytes
set_option autoImplicit false
namespace Go.Proofs.Ytihpobpkhhkejaa
open Go Go.RowKit

theorem u8_infoB : (Try.prog.info? 5).map (fun i => (i.size, i.bytes, (i.zero.getD undef).cells.size, i.zero.isSome)) = some (1, 1, 1, true) := by kernel_rfl
theorem u8_info : ∃ i z, Try.prog.info? 5 = some i ∧ i.zero = some z ∧ i.size = 1 ∧ i.bytes = 1 ∧ z.cells.size = 1 := by
  obtain ⟨i, hi, hzz⟩ := Option.map_eq_some_iff.1 u8_infoB
  simp only [Prod.mk.injEq] at hzz
  obtain ⟨z, hz⟩ := Option.isSome_iff_exists.1 hzz.2.2.2
  refine ⟨i, z, hi, hz, hzz.1, hzz.2.1, ?_⟩
  have := hzz.2.2.1
  rw [hz] at this
  exact this
structure Byts (w : World) (lo : Nat) (v : Value) (xs : List Int) : Prop where
  row : w.ownsRow 0 5 1 v xs.length (xs.map (Value.int .u8))
  lo : ∀ g, v.ownBlock = some g → lo ≤ g
def ApartB (v u : Value) : Prop := ∀ g, v.ownBlock = some g → u.ownBlock ≠ some g
theorem ApartB.symm {v u : Value} (h : ApartB v u) : ApartB u v := fun g hg e => h g e hg
theorem Byts.nil (w : World) (lo : Nat) : Byts w lo (.slice none 0 0) [] := ⟨World.ownsRow_nil _ _ _ _, fun g hg => by simp [Value.ownBlock] at hg⟩
theorem apartB_nil (u : Value) : ApartB (.slice none 0 0) u := fun g hg => by simp [Value.ownBlock] at hg
section
variable {w w' : World} {lo : Nat} {v u : Value} {xs : List Int} {G : Nat → Prop}
theorem Byts.lt (h : Byts w lo v xs) {g : Nat} (hg : v.ownBlock = some g) : g < w.heap.size := ownsRow_lt h.row hg
theorem Byts.chg (h : Byts w lo v xs) (c : Chg G w w') (hG : ∀ g, v.ownBlock = some g → ¬ G g) : Byts w' lo v xs := ⟨ownsRow_chg h.row c hG, h.lo⟩
theorem Byts.quiet (h : Byts w lo v xs) (c : Chg (fun _ => False) w w') : Byts w' lo v xs := h.chg c (fun _ _ h => h)
theorem Byts.form (h : Byts w lo v xs) : ∃ ao cap, v = .slice ao xs.length cap ∧ (0 < xs.length → ∃ g, ao = some ⟨g, 0, none⟩ ∧ v.ownBlock = some g ∧ ∀ j, (hj : j < xs.length) → w.cell? ⟨g, j, none⟩ = some (.int .u8 xs[j])) := by
  rcases h.row.2 with ⟨rfl, hn⟩ | ⟨g, cap, cur, rfl, hb, hg, r1, r2, r3, r4⟩
  · exact ⟨none, 0, by rw [hn], fun h => by omega⟩
  · refine ⟨some ⟨g, 0, none⟩, cap, rfl, fun _ => ⟨g, rfl, rfl, fun j hj => ?_⟩⟩
    have := h.row.cells (g := g) rfl j (.int .u8 xs[j]) (by simp [hj])
    have e : (⟨g, 0, none⟩ : Addr).add j = ⟨g, j, none⟩ := by
      unfold Addr.add
      split
      · rename_i h0; rw [h0]
      · rw [Nat.zero_add]
    rw [e] at this
    exact this
theorem Byts.len_le (h : Byts w lo v xs) : xs.length ≤ 9223372036854775807 := by
  rcases h.row.2 with ⟨rfl, hn⟩ | ⟨g, cap, cur, rfl, hb, hg, r1, r2, r3, r4⟩
  · omega
  · have := r2
    unfold maxLen at this
    omega
end
theorem Byts.at_ {w : World} {lo n cap g : Nat} {xs : List Int} (h : Byts w lo (.slice (some ⟨g, 0, none⟩) n cap) xs) (j : Nat) (hj : j < xs.length) : w.cell? ⟨g, j, none⟩ = some (.int .u8 xs[j]) := by
  obtain ⟨ao, c, he, hf⟩ := h.form
  simp only [Value.slice.injEq] at he
  obtain ⟨g', hg', _, hc⟩ := hf (by omega)
  obtain ⟨rfl, _⟩ := he
  simp only [Option.some.injEq, Addr.mk.injEq] at hg'
  obtain ⟨rfl, _⟩ := hg'
  exact hc j hj
/-- many more: the run of append -/
theorem run_byts (w : World) (ty : TypeId) (lo : Nat) (v : Value) (xs : List Int) (h : Byts w lo v xs) (ao : Option Addr) (c : Nat) (ys : List Int) (hnone : ao = none → ys.length = 0) (hb : ∀ ad, ao = some ad → ∀ j, (hj : j < ys.length) → w.cell? (ad.add j) = some (.int .u8 ys[j]))
    (hlen : xs.length + ys.length < 20000000000000) (hlo : lo ≤ w.heap.size) :
    ∃ v' w', (Builtin.append_ #[22, 22] ty #[v, .slice ao ys.length c]).run Try.prog w = .ok v' w' ∧ Byts w' lo v' (xs ++ ys) ∧ Chg (fun k => v.ownBlock = some k) w w' ∧ (∀ g, v'.ownBlock = some g → v.ownBlock = some g ∨ g = w.heap.size) := by
  obtain ⟨i0, z0, hi0, hz0, hs0, hb0, hzs0⟩ := u8_info
  obtain ⟨v', w', hr, h1, h2, h3, _, _⟩ := run_app (P := Try.prog) w 22 ty 5 i0 z0 1 1 Try.underlying22 hi0 hz0 hs0 hb0 hzs0 v xs.length (xs.map (Value.int .u8)) h.row ao ys.length c (ys.map (Value.int .u8)) (by simp) hnone (fun ad had j u hu => by
    rw [List.getElem?_map] at hu
    obtain ⟨y, hy, rfl⟩ := Option.map_eq_some_iff.1 hu
    obtain ⟨hj, rfl⟩ := List.getElem?_eq_some_iff.1 hy
    exact hb ad had j hj) (by intro u hu; obtain ⟨y, _, rfl⟩ := List.mem_map.1 hu; rfl) (by unfold maxLen; omega) (by omega)
  have hlo' : ∀ g, v'.ownBlock = some g → v.ownBlock = some g ∨ g = w.heap.size := fun g hg => by
    rcases h3 with h4 | h4
    · exact .inl (by rw [← h4]; exact hg)
    · rw [h4] at hg; exact .inr (by simpa using hg.symm)
  refine ⟨v', w', hr, ⟨by rw [List.length_append, List.map_append]; exact h1, fun g hg => ?_⟩, (Chg.refl (fun k => v.ownBlock = some k) w).grown h2 (fun k hk => .inl hk), hlo'⟩
  rcases hlo' g hg with h4 | h4
  · exact h.lo g h4
  · omega
theorem wp_byts {o : Oper} {a : Act} {K : Act → World → Prop} {Q : Exit → Act → World → Prop} {w : World} (s x : Operand)
    (ho : o.op = .call { callee := .builtin .append, args := #[s, x], argTypes := #[22, 22] }) (lo : Nat) (v : Value) (xs : List Int) (hs : a.eval s = v) (h : Byts w lo v xs) (ao : Option Addr) (c : Nat) (ys : List Int) (hx : a.eval x = .slice ao ys.length c)
    (hnone : ao = none → ys.length = 0) (hb : ∀ ad, ao = some ad → ∀ j, (hj : j < ys.length) → w.cell? (ad.add j) = some (.int .u8 ys[j])) (hlen : xs.length + ys.length < 20000000000000) (hlo : lo ≤ w.heap.size)
    (k : ∀ v' w', Byts w' lo v' (xs ++ ys) → Chg (fun k => v.ownBlock = some k) w w' → (∀ g, v'.ownBlock = some g → v.ownBlock = some g ∨ g = w.heap.size) → K (a.put o.dst v') w') : o.wp Try.prog a w K Q := by
  obtain ⟨v', w', hr, h1, h2, h3⟩ := run_byts w o.type lo v xs h ao c ys hnone hb hlen hlo
  unfold Oper.wp execOp
  simp only [ho, resolve, invoke, builtin, Sem.run_bind, Sem.run_pure, Result.andThen_ok, List.map_toArray, List.map_cons, List.map_nil, hs, hx, hr]
  exact k v' w' h1 h2 h3
/-- one more -/
theorem byts_app {ops : Array Oper} {rest : List Oper} {o : Oper} {a : Act} {Q : Exit → Act → World → Prop} {w : World} (hgd : o.guard = none) (s x : Operand)
    (ho : o.op = .call { callee := .builtin .append, args := #[s, x], argTypes := #[22, 22] }) (lo : Nat) (v : Value) (xs : List Int) (hs : a.eval s = v) (h : Byts w lo v xs) (blk : Nat) (y : Int) (hx : a.eval x = .slice (some ⟨blk, 0, none⟩) 1 1)
    (hb : w.heap[blk]? = some (.cells #[.int .u8 y] 5 (0, 0))) (hlen : xs.length < 20000000000000) (hlo : lo ≤ w.heap.size)
    (k : ∀ v' w', Byts w' lo v' (xs ++ [y]) → Chg (fun k => v.ownBlock = some k) w w' → (∀ g, v'.ownBlock = some g → v.ownBlock = some g ∨ g = w.heap.size) → wpList Try.prog ops Q rest (a.put o.dst v') w') : wpList Try.prog ops Q (o :: rest) a w := by
  obtain ⟨i0, z0, hi0, hz0, hs0, hb0, hzs0⟩ := u8_info
  refine wpList_app w hgd s x 22 ho 5 i0 z0 1 1 Try.underlying22 hi0 hz0 hs0 hb0 hzs0 v xs.length (xs.map (Value.int .u8)) hs h.row _ 1 1 [.int .u8 y] hx rfl (fun h => by cases h) ?_ (by simp [Value.oneCell']) (by unfold maxLen; omega) (by omega) ?_
  · intro ad had
    obtain rfl := Option.some.inj had
    exact World.news_of_block hb
  · intro v' w' r g hat _ _
    have hlo' : ∀ g, v'.ownBlock = some g → v.ownBlock = some g ∨ g = w.heap.size := fun g hg => by
      rcases hat with h1 | h1
      · exact .inl (by rw [← h1]; exact hg)
      · rw [h1] at hg; exact .inr (by simpa using hg.symm)
    refine k v' w' ⟨by simpa using r, fun g hg => ?_⟩ ?_ hlo'
    · rcases hlo' g hg with h1 | h1
      · exact h.lo g h1
      · omega
    · exact (Chg.refl (fun k => v.ownBlock = some k) w).grown g (fun k hk => .inl hk)
/-! bytes -/
theorem leN_snoc (n : Int) (k : Nat) : leN n (k + 1) = leN n k ++ [n / 256 ^ k % 256] := by
  induction k generalizing n with
  | zero => simp [leN]
  | succ k ih =>
    rw [leN, ih (n / 256), leN, List.cons_append, Int.pow_succ, Int.mul_comm, Int.ediv_ediv_of_nonneg (by omega)]
set_option maxRecDepth 100000 in
set_option maxHeartbeats 2000000 in
theorem bytes_any (n : Int) (k : Nat) (w : World) (h0 : 0 ≤ n) (h1 : n < 18446744073709551616) (hk : k ≤ 8) :
    Calls Try.prog 55 #[.int .u64 n, .int .i64 k] w fun e w' => ∃ v, e = .returned v ∧ Byts w' w.heap.size v (leN n k) ∧ Chg (fun _ => False) w w' := by
  go_enter Try.func55, Try.ntmps55
  go_wp2
  go_loopw [5, 8] (fun s5 s8 wr => ∃ i : Nat, i ≤ k ∧ s8 = .int .i64 i ∧ Byts wr w.heap.size s5 (leN n i) ∧ Chg (fun _ => False) w wr) (fun _ s8 _ => k - (intOf s8).toNat)
  case atStart => exact ⟨0, Nat.zero_le _, rfl, Byts.nil _ _, Chg.refl _ _⟩
  case round =>
    obtain ⟨i, hi, rfl, hb, hx⟩ := hrel
    have HB := Lib.hid hb; have HX := Lib.hid hx
    have z := hx.size
    clear hb hx
    by_cases hlt : i < k
    · have HS := Lib.hid (leN_snoc n i)
      rcases (show i = 0 ∨ i = 1 ∨ i = 2 ∨ i = 3 ∨ i = 4 ∨ i = 5 ∨ i = 6 ∨ i = 7 by omega) with rfl | rfl | rfl | rfl | rfl | rfl | rfl | rfl
      all_goals
        go_wp2_with (at_builtin; refine byts_app rfl _ _ rfl w.heap.size u5 _ rfl (HB.out.quiet (Chg.alloc (Chg.refl _ _) _)) wr.heap.size _ rfl hal_new (by simp) (by simp; omega) ?_)
        intro v6 w6 hv6 c6 hn6
        have HV6 := Lib.hid hv6
        have HX6 := Lib.hid ((HX.out.alloc _).trans (G := fun k => u5.ownBlock = some k) c6 (fun x hx => .inr (HB.out.lo x hx)))
        clear hv6 c6 hn6
        go_wp2
        go_roundw
        case rel =>
          refine ⟨_, hlt, by go_num, ?_, HX6.out⟩
          rw [HS.out]
          first
            | simpa using HV6.out
            | (have h7 : n / 256 ^ 7 % 256 = n / 72057594037927936 := by (have : (256 : Int) ^ 7 = 72057594037927936 := by decide); rw [this]; omega
               rw [h7]; exact HV6.out)
        case measure => simp [intOf]; omega
    · have hie : i = k := by omega
      subst hie
      go_wp2
      go_ret
      exact ⟨_, rfl, HB.out, HX.out⟩
end Go.Proofs.Ytihpobpkhhkejaa
