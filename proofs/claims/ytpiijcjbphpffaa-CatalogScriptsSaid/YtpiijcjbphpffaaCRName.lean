/-
  The document's test of a name answers as the program's. Condition: the text is no longer than the model's greatest length.
-/
import Derived.Test.YtpiijcjbphpffaaCName
set_option autoImplicit false
namespace Go.Proofs.Ytpiijcjbphpffaa
open Go Go.RowKit

theorem nameB_digit {s : ByteArray} (h0 : 0 < s.size) (h : 48 ≤ (s[0].toNat : Int) ∧ (s[0].toNat : Int) ≤ 57) : nameB s = false := by
  refine nameB_false (k := 0) h0 ?_
  rw [namePre_succ]
  have : s.data.toList.getD 0 0 = s[0] := by simp [h0]; rfl
  rw [this]
  have hw := chOk_ways s[0].toNat 0
  rcases hw with ⟨h1, h⟩ | ⟨h1, ⟨h2, h3⟩, h⟩ | ⟨h1, h2, ⟨h3, h4⟩, h5, h⟩ | ⟨h1, h2, ⟨h3, h4⟩, h5, h⟩ | ⟨h1, h2, h3, h⟩ | ⟨h1, h2, h3, h4, h⟩ | ⟨h1, h2, h3, h4, h5, h⟩ <;> first | omega | (rw [h]; simp; done) | simp at h5
set_option maxHeartbeats 1000000 in
theorem rname_any (s : ByteArray) (w : World) (hs : s.size ≤ 9223372036854775807) : Calls Try.prog 14 #[.string s] w fun e w' => e = .returned (.bool (nameB s)) ∧ w = w' := by
  by_cases h0 : s.size < 1
  · have HN := Lib.hid (show nameB s = false by unfold nameB; rw [show decide (0 < s.size) = false from decide_eq_false (by omega)]; simp)
    go_enter Try.func14, Try.ntmps14
    go_wp2
    go_ret
    exact ⟨ret_bool HN.out.symm, rfl⟩
  · by_cases h32 : 32 < s.size
    · have HN := Lib.hid (show nameB s = false by unfold nameB; rw [show decide (s.size ≤ 32) = false from decide_eq_false (by omega)]; simp)
      go_enter Try.func14, Try.ntmps14
      go_wp2
      go_ret
      exact ⟨ret_bool HN.out.symm, rfl⟩
    · have hp : 0 < s.size := by omega
      by_cases hd : 48 ≤ (s[0].toNat : Int) ∧ (s[0].toNat : Int) ≤ 57
      · have HN := Lib.hid (nameB_digit hp hd)
        obtain ⟨hd1, hd2⟩ := hd
        go_enter Try.func14, Try.ntmps14
        go_wp2
        go_ret
        exact ⟨ret_bool HN.out.symm, rfl⟩
      · have HD := Lib.hid hd
        have hway : (s[0].toNat : Int) < 48 ∨ (48 ≤ (s[0].toNat : Int) ∧ 57 < (s[0].toNat : Int)) := by omega
        clear hd
        rcases hway with hw1 | ⟨hw0, hw1⟩
        all_goals
          go_enter Try.func14, Try.ntmps14
          go_wp2
          go_loop [3] (fun i => ∃ k : Nat, k ≤ s.size ∧ i = .int .i64 k ∧ Hid (namePre s k = true)) (fun i => s.size - (intOf i).toNat)
          case atStart => exact ⟨0, Nat.zero_le _, rfl, Lib.hid (by simp [namePre])⟩
          case round =>
            clear hw1
            try clear hw0
            obtain ⟨k, hk, rfl, hp⟩ := hrel
            by_cases hlt : k < s.size
            · have hgd : s.data.toList.getD k 0 = s[k] := by simp [hlt]; rfl
              have HG := Lib.hid (show namePre s (k + 1) = chOk s[k].toNat (k == 0) by rw [namePre_succ, hp.out, hgd]; simp)
              clear hgd
              have hw := chOk_ways s[k].toNat k
              rcases hw with ⟨h1, h⟩ | ⟨h1, ⟨h2, h3⟩, h⟩ | ⟨h1, h2, ⟨h3, h4⟩, h5, h⟩ | ⟨h1, h2, ⟨h3, h4⟩, h5, h⟩ | ⟨h1, h2, h3, h⟩ | ⟨h1, h2, h3, h4, h⟩ | ⟨h1, h2, h3, h4, h5, h⟩
              all_goals rw [h] at HG
              all_goals clear h
              case inr.inr.inl =>
                exfalso
                have hk0 : k = 0 := by simpa using h5
                subst hk0
                exact HD.out ⟨h3, h4⟩
              all_goals try have h9 : ((s[k].toNat : Int) == 95) = false := by simpa using h1
              all_goals try have h7 : decide ((s[k].toNat : Int) ≤ 57) = false := decide_eq_false (by omega)
              all_goals try have h8 : decide ((s[k].toNat : Int) ≤ 122) = false := decide_eq_false (by omega)
              all_goals
                go_wp2
                first
                | (go_round
                   case rel => exact ⟨k + 1, by omega, by go_num, HG⟩
                   case measure => simp [intOf]; omega)
                | (go_ret
                   exact ⟨ret_bool (nameB_false hlt HG.out).symm, rfl⟩)
            · have HE := Lib.hid (show k = s.size by omega)
              go_wp2
              go_ret
              have hpp := hp.out
              rw [HE.out] at hpp
              refine ⟨ret_bool ?_, rfl⟩
              unfold nameB
              rw [hpp, show decide (0 < s.size) = true from decide_eq_true (by omega), show decide (s.size ≤ 32) = true from decide_eq_true (by omega)]
              rfl
end Go.Proofs.Ytpiijcjbphpffaa
