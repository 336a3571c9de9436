/-
  The catalog's small functions: name, cmp.Compare, the values of a row. No condition beyond each lemma's own.
-/
import Derived.Test.YtpiijcjbphpffaaProg
import Derived.Test.YtpiijcjbphpffaaMaps
import Derived.Test.YtpiijcjbphpffaaLex
import Derived.Test.YtpiijcjbphpffaaRead
import Derived.WalkLawsBesides
import Derived.WalkSpells
import Derived.BigQuiet
import Derived.Lib.Hide
import Derived.MapKept
import Derived.Deep.QuietTactic
set_option autoImplicit false
namespace Go.Proofs.Ytpiijcjbphpffaa
open Go Go.RowKit

/-- may a byte stand in a name at that place? -/
def chOk (c : Nat) (first : Bool) : Bool := c == 95 || (decide (97 ≤ c) && decide (c ≤ 122)) || (decide (48 ≤ c) && decide (c ≤ 57) && !first)
def namePre (s : ByteArray) (k : Nat) : Bool := (List.range k).all fun i => chOk (s.data.toList.getD i 0).toNat (i == 0)
def nameB (s : ByteArray) : Bool := namePre s s.size && decide (0 < s.size) && decide (s.size ≤ 32)
theorem namePre_succ (s : ByteArray) (k : Nat) : namePre s (k + 1) = (namePre s k && chOk (s.data.toList.getD k 0).toNat (k == 0)) := by
  unfold namePre; rw [List.range_succ, List.all_append]; simp
theorem namePre_mono {s : ByteArray} {k n : Nat} (h : namePre s n = true) (hk : k ≤ n) : namePre s k = true := by
  unfold namePre at *
  rw [List.all_eq_true] at *
  intro i hi
  exact h i (by simp at *; omega)
theorem ret_bool {a b : Bool} (h : a = b) : Ending.returned (.bool a) = .returned (.bool b) := by rw [h]
theorem truth_any (b : Bool) (w : World) : Calls Try.prog 43 #[.bool b] w fun e w' => e = .returned (.agg #[.int .i64 2, .int .i64 (if b then 1 else 0), .string ⟨#[]⟩]) ∧ Chg (fun _ => False) w w' := by
  cases b
  · go_enter Try.func43, Try.ntmps43
    go_wp2
    refine bodyPost_ret (v := .agg #[.int .i64 2, .int .i64 0, .string ⟨#[]⟩]) (by simp [results, Try.results43, go_sem]) rfl ⟨rfl, ?_⟩
    exact ((Chg.refl _ _).alloc _).alloc _
  · go_enter Try.func43, Try.ntmps43
    go_wp2
    refine bodyPost_ret (v := .agg #[.int .i64 2, .int .i64 1, .string ⟨#[]⟩]) (by simp [results, Try.results43, go_sem]) rfl ⟨rfl, ?_⟩
    exact ((Chg.refl _ _).alloc _).alloc _
theorem text_any (s : ByteArray) (w : World) : Calls Try.prog 44 #[.string s] w fun e w' => e = .returned (.agg #[.int .i64 3, .int .i64 0, .string s]) ∧ Chg (fun _ => False) w w' := by
  go_enter Try.func44, Try.ntmps44
  go_wp2
  refine bodyPost_ret (v := .agg #[.int .i64 3, .int .i64 0, .string s]) (by simp [results, Try.results44, go_sem]) rfl ⟨rfl, ?_⟩
  exact (Chg.refl _ _).alloc _
theorem number_any (n : Int) (w : World) : Calls Try.prog 45 #[.int .i64 n] w fun e w' => e = .returned (.agg #[.int .i64 1, .int .i64 n, .string ⟨#[]⟩]) ∧ Chg (fun _ => False) w w' := by
  go_enter Try.func45, Try.ntmps45
  go_wp2
  refine bodyPost_ret (v := .agg #[.int .i64 1, .int .i64 n, .string ⟨#[]⟩]) (by simp [results, Try.results45, go_sem]) rfl ⟨rfl, ?_⟩
  exact (Chg.refl _ _).alloc _
theorem chOk_ways (c k : Nat) : (c = 95 ∧ chOk c (k == 0) = true) ∨ ((c : Int) ≠ 95 ∧ (97 ≤ (c : Int) ∧ (c : Int) ≤ 122) ∧ chOk c (k == 0) = true) ∨ ((c : Int) ≠ 95 ∧ (c : Int) < 97 ∧ (48 ≤ (c : Int) ∧ (c : Int) ≤ 57) ∧ ((k : Int) == 0) = true ∧ chOk c (k == 0) = false) ∨
    ((c : Int) ≠ 95 ∧ (c : Int) < 97 ∧ (48 ≤ (c : Int) ∧ (c : Int) ≤ 57) ∧ ((k : Int) == 0) = false ∧ chOk c (k == 0) = true) ∨ ((c : Int) ≠ 95 ∧ (c : Int) < 48 ∧ (c : Int) < 97 ∧ chOk c (k == 0) = false) ∨ ((c : Int) ≠ 95 ∧ 57 < (c : Int) ∧ (c : Int) < 97 ∧ 48 ≤ (c : Int) ∧ chOk c (k == 0) = false) ∨ ((c : Int) ≠ 95 ∧ 122 < (c : Int) ∧ 97 ≤ (c : Int) ∧ 57 < (c : Int) ∧ 48 ≤ (c : Int) ∧ chOk c (k == 0) = false) := by
  unfold chOk
  by_cases h : c = 95
  · simp [h]
  · by_cases h1 : 97 ≤ c
    · by_cases h2 : c ≤ 122
      · simp [h1, h2]; omega
      · right; right; right; right; right; right
        simp; omega
    · by_cases h2 : 48 ≤ c
      · by_cases h3 : c ≤ 57
        · by_cases hk : k = 0
          · simp [hk, h2, h3]; omega
          · simp [hk, h2, h3]; omega
        · right; right; right; right; right; left
          simp; omega
      · right; right; right; right; left
        simp; omega
theorem nameB_end {s : ByteArray} (h : namePre s s.size = true) : nameB s = (!s.toList.isEmpty && decide ((s.size : Int) ≤ 32)) := by
  unfold nameB
  rw [h, ByteArray.toList_eq]
  have e : (!s.data.toList.isEmpty) = decide (0 < s.size) := by
    rw [Bool.eq_iff_iff]
    have : s.size = s.data.toList.length := by simp
    rw [this]
    cases s.data.toList <;> simp
  rw [e]
  simp
  congr 1
  rw [decide_eq_decide]
  omega
theorem nameB_false {s : ByteArray} {k : Nat} (hk : k < s.size) (h : namePre s (k + 1) = false) : nameB s = false := by
  unfold nameB
  cases hn : namePre s s.size with
  | false => rfl
  | true => rw [namePre_mono hn (by omega : k + 1 ≤ s.size)] at h; cases h
set_option maxHeartbeats 1000000 in
theorem name_any (s : ByteArray) (w : World) (hs : s.size ≤ 9223372036854775807) : Calls Try.prog 27 #[.string s] w fun e w' => e = .returned (.bool (nameB s)) ∧ w = w' := by
  go_enter Try.func27, Try.ntmps27
  go_wp2
  go_loop [7] (fun i => ∃ k : Nat, k ≤ s.size ∧ i = .int .i64 k ∧ Hid (namePre s k = true)) (fun i => s.size - (intOf i).toNat)
  case atStart => exact ⟨0, Nat.zero_le _, rfl, Lib.hid (by simp [namePre])⟩
  case round =>
    obtain ⟨k, hk, rfl, hp⟩ := hrel
    by_cases hlt : k < s.size
    · have hgd : s.data.toList.getD k 0 = s[k] := by simp [hlt]; rfl
      have HG := Lib.hid (show namePre s (k + 1) = chOk s[k].toNat (k == 0) by rw [namePre_succ, hp.out, hgd]; simp)
      clear hgd
      have hw := chOk_ways s[k].toNat k
      rcases hw with ⟨h1, h⟩ | ⟨h1, ⟨h2, h3⟩, h⟩ | ⟨h1, h2, ⟨h3, h4⟩, h5, h⟩ | ⟨h1, h2, ⟨h3, h4⟩, h5, h⟩ | ⟨h1, h2, h3, h⟩ | ⟨h1, h2, h3, h4, h⟩ | ⟨h1, h2, h3, h4, h5, h⟩
      all_goals rw [h] at HG
      all_goals clear h
      case inr.inr.inr.inl =>
        have hk1 : decide ((k : Int) = 0) = false := by simpa using h5
        go_wp2
        go_round
        case rel => exact ⟨k + 1, by omega, by go_num, HG⟩
        case measure => simp [intOf]; omega
      all_goals
        go_wp2
        first
        | (go_round
           case rel => exact ⟨k + 1, by omega, by go_num, HG⟩
           case measure => simp [intOf]; omega)
        | (go_ret
           exact ⟨ret_bool (nameB_false hlt HG.out).symm, rfl⟩)
    · obtain rfl : k = s.size := by omega
      have hB := nameB_end hp.out
      have HB := Lib.hid hB
      clear hB hp
      go_wp2
      all_goals
        go_ret
        first
        | exact ⟨ret_bool HB.out.symm, rfl⟩
        | (have h : s.toList = [] := by assumption
           exact ⟨ret_bool (by rw [HB.out, h]; rfl), rfl⟩)

/-! strings, ordered by their bytes -/
def bLt (a b : ByteArray) : Bool := decide (a.data.toList < b.data.toList)
end Go.Proofs.Ytpiijcjbphpffaa
