/-
  The walk of same of the laws of the book of transactions, for two lists that hold the same. Condition: both are slices of numbers of the call's own.
-/
import Derived.Test.YtkneldeemlngkaaMChain
set_option autoImplicit false
namespace Go.Proofs.Ytkneldeemlngkaa
open Go Go.RowKit

set_option maxRecDepth 100000 in
theorem same_eq (v u : Value) (xs : List Int) (lo lo2 : Nat) (w : World) (hv : Ints w lo v xs) (hu : Ints w lo2 u xs) :
    Calls Try.prog 19 #[v, u] w fun e w' => e = .returned (.bool true) ∧ Chg (fun _ => False) w w' := by
  obtain ⟨a1, c1, rfl, hf1⟩ := hv.form
  obtain ⟨a2, c2, rfl, hf2⟩ := hu.form
  have HV := Lib.hid hv; have HU := Lib.hid hu; have F1 := Lib.hid hf1; have F2 := Lib.hid hf2
  have hl := hv.len_le
  clear hv hu hf1 hf2
  go_enter Try.func19, Try.ntmps19
  go_wp2
  go_loopw [5] (fun s5 wr => ∃ k : Nat, k ≤ xs.length ∧ s5 = .int .i64 k ∧ Chg (fun _ => False) w wr) (fun s5 _ => xs.length - (intOf s5).toNat)
  case atStart => exact ⟨0, Nat.zero_le _, rfl, Chg.refl _ _⟩
  case round =>
    obtain ⟨k, hk, rfl, hx⟩ := hrel
    have HX := Lib.hid hx
    clear hx
    by_cases hkl : k < xs.length
    · obtain ⟨g1, rfl, _, _⟩ := F1.out (by omega)
      obtain ⟨g2, rfl, _, _⟩ := F2.out (by omega)
      have h1 := (HV.out.quiet HX.out).at_ k hkl
      have h2 := (HU.out.quiet HX.out).at_ k hkl
      have k0 : (0 : Int) ≤ (k : Int) := by omega
      have k1 : (k : Int) < (xs.length : Int) := by omega
      generalize xs[k] = d at *
      go_wp2_with fail
      refine wp_region_lex (fun w' => w'.cell? ⟨g1, k, none⟩ = some (.int .i64 d) ∧ w'.cell? ⟨g2, k, none⟩ = some (.int .i64 d)) 99 [] [0, 1, 2, 3, 4, 5, 6, 7, 8] (by kernel_rfl) (by kernel_rfl) ⟨h1, h2⟩ ?_
      iterate 9
        refine' lex_free (v := _) rfl rfl rfl ?_ (fun _ _ _ h => h) ?_
        rotate_left
        · rintro W ⟨hW1, hW2⟩
          go_simp
          with_reducible rfl
        try simp only [Act.put, List.setIfInBounds_toArray, List.set_cons_zero, List.set_cons_succ]
      refine lex_nil ?_
      clear h1 h2
      go_wp2
      go_roundw
      case rel => exact ⟨k + 1, by omega, by go_num, HX.out.drew⟩
      case measure => simp [intOf]; omega
    · go_wp2
      go_ret
      exact ⟨rfl, HX.out⟩
end Go.Proofs.Ytkneldeemlngkaa
