/-
  What New of the book of transactions does. Condition: the list of those that are done reads as numbers.
-/
import Derived.Test.YtkneldeemlngkaaMBookD
import Derived.Test.YtkneldeemlngkaaRead
set_option autoImplicit false
namespace Go.Proofs.Ytkneldeemlngkaa
open Go Go.RowKit

def outOf (nx x : Int) : Bool := decide (x < 1) || decide (nx ≤ x)
theorem newF_any (x nx : Int) (bx : Nat) (w : World) (h : w.cell? ⟨bx, 0, none⟩ = some (.int .i64 nx)) :
    Calls Try.prog 23 #[.int .i64 x, .pointer (some ⟨bx, 0, none⟩)] w fun e w' => e = .returned (.bool (outOf nx x)) ∧ w = w' := by
  have hst : ∀ v, outOf nx x = v → Hid (outOf nx x = v) := fun x h => Lib.hid h
  by_cases h1 : x < 1
  · have HS := hst true (by unfold outOf; simp [h1])
    rw [HS.out]
    clear HS hst
    go_enter Try.func23, Try.ntmps23
    go_wp2
    go_ret
    exact ⟨rfl, rfl⟩
  · by_cases h2 : nx ≤ x
    · have HS := hst true (by unfold outOf; simp [h2])
      rw [HS.out]
      clear HS hst
      go_enter Try.func23, Try.ntmps23
      go_wp2
      go_ret
      exact ⟨by simp, rfl⟩
    · have HS := hst false (by unfold outOf; simp [h1, h2])
      rw [HS.out]
      clear HS hst
      go_enter Try.func23, Try.ntmps23
      go_wp2
      go_ret
      exact ⟨by simp, rfl⟩
theorem iindex_any (ao : Option Addr) (len cap : Nat) (V : Nat → Int) (nx : Int) (bx : Nat) (w : World) (hb : w.cell? ⟨bx, 0, none⟩ = some (.int .i64 nx)) (hm : len ≤ 9223372036854775807) (h : SlRd w ao len 1 (fun i _ => .int .i64 (V i))) :
    Calls Try.prog 31 #[.slice ao len cap, .func (.func 23) #[] #[.pointer (some ⟨bx, 0, none⟩)]] w fun e w' => ∃ k : Int, e = .returned (.int .i64 k) ∧ (0 ≤ k ↔ ∃ i, i < len ∧ outOf nx (V i) = true) ∧ w = w' := by
  have HB := Lib.hid hb; have HR := Lib.hid h
  clear hb h
  go_enter Try.func31, Try.ntmps31
  go_wp2
  go_loop [8] (fun s => ∃ i : Nat, i ≤ len ∧ s = .int .i64 i ∧ Hid (∀ j, j < i → outOf nx (V j) = false)) (fun s => len - (intOf s).toNat)
  case atStart => exact ⟨0, Nat.zero_le _, rfl, Lib.hid (fun j hj => by omega)⟩
  case round =>
    obtain ⟨i, hi, rfl, hj⟩ := hrel
    by_cases hlt : i < len
    · obtain ⟨b, o, rfl, _, hc⟩ := HR.out (by omega)
      have hci := hc i 0 hlt (by omega)
      simp only [Nat.mul_one, Nat.add_zero] at hci
      clear hc
      generalize hVi : V i = Vi at *
      have HVI := Lib.hid hVi
      clear hVi
      go_wp2_with fail
      refine (newF_any Vi nx bx _ HB.out).mono ?_
      rintro e w' ⟨rfl, rfl⟩
      cases ho : outOf nx Vi with
      | true =>
        have HO := Lib.hid ho
        clear ho
        go_wp2
        go_ret
        exact ⟨i, rfl, ⟨fun _ => ⟨i, hlt, by rw [HVI.out]; exact HO.out⟩, fun _ => by omega⟩, rfl⟩
      | false =>
        have HO := Lib.hid ho
        clear ho
        go_wp2
        go_round
        case rel => exact ⟨i + 1, by omega, by go_num, Lib.hid (fun j hj2 => by
          by_cases hji : j = i
          · subst hji; rw [HVI.out]; exact HO.out
          · exact hj.out j (by omega))⟩
        case measure => simp [intOf]; omega
    · go_wp2
      go_ret
      exact ⟨-1, rfl, ⟨fun h => by omega, fun ⟨j, hj1, hj2⟩ => by have := hj.out j (by omega); rw [this] at hj2; cases hj2⟩, rfl⟩
theorem icontains_any (ao : Option Addr) (len cap : Nat) (V : Nat → Int) (nx : Int) (bx : Nat) (w : World) (hb : w.cell? ⟨bx, 0, none⟩ = some (.int .i64 nx)) (hm : len ≤ 9223372036854775807) (h : SlRd w ao len 1 (fun i _ => .int .i64 (V i))) :
    Calls Try.prog 22 #[.slice ao len cap, .func (.func 23) #[] #[.pointer (some ⟨bx, 0, none⟩)]] w fun e w' => ∃ b : Bool, e = .returned (.bool b) ∧ (b = true ↔ ∃ i, i < len ∧ outOf nx (V i) = true) ∧ w = w' := by
  have HB := Lib.hid hb; have HR := Lib.hid h
  clear hb h
  go_enter Try.func22, Try.ntmps22
  go_wp2_with fail
  refine (iindex_any ao len cap V nx bx _ HB.out hm HR.out).mono ?_
  rintro e w' ⟨k, rfl, hk, rfl⟩
  have HK := Lib.hid hk
  clear hk
  go_wp2
  go_ret
  exact ⟨_, rfl, by simpa using HK.out, rfl⟩
end Go.Proofs.Ytkneldeemlngkaa
