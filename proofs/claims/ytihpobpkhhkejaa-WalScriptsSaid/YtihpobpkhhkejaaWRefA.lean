/-
  The document's log: numbers as bytes, and a sector that is filled byte by byte. Conditions: as each lemma says.
-/
import Derived.Test.YtihpobpkhhkejaaWAwake
import Derived.Test.YtihpobpkhhkejaaRefK
import Derived.Test.YtihpobpkhhkejaaRefR
set_option autoImplicit false
namespace Go.Proofs.Ytihpobpkhhkejaa
open Go Go.RowKit

set_option maxRecDepth 100000 in
theorem eight_any (n : Int) (w : World) (h0 : 0 ≤ n) (h1 : n < 18446744073709551616) :
    Calls Try.prog 58 #[.int .u64 n] w fun e w' => ∃ v, e = .returned v ∧ Byts w' w.heap.size v (leN n 8) ∧ Chg (fun _ => False) w w' := by
  go_enter Try.func58, Try.ntmps58
  go_wp2
  go_loopw [0, 3, 4] (fun s0 s3 s4 wr => ∃ (i : Nat) (u : Int), i ≤ 8 ∧ s0 = .int .u64 u ∧ u = n / 256 ^ i ∧ 0 ≤ u ∧ u ≤ n ∧ s4 = .int .i64 i ∧ Byts wr w.heap.size s3 (leN n i) ∧ Chg (fun _ => False) w wr) (fun _ _ s4 _ => 8 - (intOf s4).toNat)
  case atStart => exact ⟨0, n, by omega, rfl, by simp, h0, Int.le_refl _, rfl, Byts.nil _ _, Chg.refl _ _⟩
  case round =>
    obtain ⟨i, u, hi, rfl, hu, hu0, hu1, rfl, hb, hx⟩ := hrel
    have HB := Lib.hid hb; have HX := Lib.hid hx; have HU := Lib.hid hu
    have z := hx.size
    clear hb hx hu
    by_cases hlt : i < 8
    · have HS := Lib.hid (show leN n (i + 1) = leN n i ++ [u % 256] by rw [leN_snoc, ← HU.out])
      have HU2 := Lib.hid (show u / 256 = n / 256 ^ (i + 1) by rw [HU.out, Int.pow_succ, Int.ediv_ediv_of_nonneg (by exact_mod_cast Nat.zero_le _)])
      go_wp2_with (at_builtin; refine byts_app rfl _ _ rfl w.heap.size u3 _ rfl (HB.out.quiet (Chg.alloc (Chg.refl _ _) _)) wr.heap.size _ rfl hal_new (by simp; omega) (by simp; omega) ?_)
      intro v6 w6 hv6 c6 hn6
      have HV6 := Lib.hid hv6
      have HX6 := Lib.hid ((HX.out.alloc _).trans (G := fun k => u3.ownBlock = some k) c6 (fun x hx => .inr (HB.out.lo x hx)))
      clear hv6 c6 hn6
      go_wp2
      go_roundw
      case rel =>
        refine ⟨i + 1, u / 256, by omega, rfl, HU2.out, by omega, by omega, by go_num, ?_, HX6.out⟩
        rw [HS.out]
        exact HV6.out
      case measure => simp [intOf]; omega
    · have hie : i = 8 := by omega
      subst hie
      go_wp2
      go_ret
      exact ⟨_, rfl, HB.out, HX.out⟩
theorem numOf_drop {bs : List Int} {j : Nat} (h : j < bs.length) : numOf (bs.drop j) = bs[j] + 256 * numOf (bs.drop (j + 1)) := by
  rw [List.drop_eq_getElem_cons h]
  rfl
set_option maxRecDepth 100000 in
theorem rnumber_any (b off cap : Nat) (bs : List Int) (w : World) (hb : Bytes bs) (hl : bs.length ≤ 8) (hc : ∀ j, (h : j < bs.length) → w.cell? ⟨b, off + j, none⟩ = some (.int .u8 bs[j])) :
    Calls Try.prog 57 #[.slice (some ⟨b, off, none⟩) bs.length cap] w fun e w' => e = .returned (.int .u64 (numOf bs)) ∧ w = w' := by
  have HB := Lib.hid hb; have HC := Lib.hid hc
  clear hb hc
  go_enter Try.func57, Try.ntmps57
  go_wp2
  go_loop [3, 4] (fun s3 s4 => ∃ j : Nat, j ≤ bs.length ∧ s3 = .int .u64 (numOf (bs.drop j)) ∧ s4 = .int .i64 ((j : Int) - 1)) (fun _ s4 => (intOf s4 + 1).toNat)
  case atStart => exact ⟨bs.length, Nat.le_refl _, by rw [List.drop_length]; rfl, rfl⟩
  case round =>
    obtain ⟨j, hj, rfl, rfl⟩ := hrel
    by_cases h0 : 0 < j
    · obtain ⟨i, rfl⟩ : ∃ i, j = i + 1 := ⟨j - 1, by omega⟩
      have hci := HC.out i (by omega)
      have hbi := HB.out bs[i] (List.getElem_mem _)
      have hn := numOf_le (bs.drop (i + 1)) (fun x hx => HB.out x (List.mem_of_mem_drop hx))
      have h7 := pow256_le (bs.drop (i + 1)).length 7 (by rw [List.length_drop]; omega)
      have e7 : (256 : Int) ^ 7 = 72057594037927936 := by decide
      have hs := numOf_drop (bs := bs) (j := i) (by omega)
      have hn2 : numOf (bs.drop (i + 1)) < 72057594037927936 := by omega
      have hn1 := hn.1
      have HS := Lib.hid hs
      clear hs hn h7 e7
      generalize numOf (bs.drop (i + 1)) = a at *
      generalize bs[i] = c at *
      have hji : ((i + 1 : Nat) : Int) - 1 = i := by omega
      rw [hji]
      clear hji
      go_wp2
      refine ⟨⟨i, by omega, ?_, by go_num⟩, by simp [intOf]⟩
      rw [HS.out]
      congr 1
      omega
    · have : j = 0 := by omega
      subst this
      rw [List.drop_zero]
      go_wp2
      go_ret
      exact ⟨rfl, rfl⟩
/-- one byte more in a sector -/
theorem pad_set (c : List Int) (x : Int) (h : c.length < 64) : (secC (padTo c)).toArray.setIfInBounds c.length (.int .u8 x) = (secC (padTo (c ++ [x]))).toArray := by
  apply Array.ext'
  obtain ⟨m, hm⟩ : ∃ m, 64 - c.length = m + 1 := ⟨63 - c.length, by omega⟩
  have hm2 : 64 - (c ++ [x]).length = m := by rw [List.length_append, List.length_singleton]; omega
  simp only [Array.toList_setIfInBounds]
  unfold secC padTo
  rw [hm, hm2, List.replicate_succ, List.map_append, List.map_append, List.map_append]
  simp
end Go.Proofs.Ytihpobpkhhkejaa
