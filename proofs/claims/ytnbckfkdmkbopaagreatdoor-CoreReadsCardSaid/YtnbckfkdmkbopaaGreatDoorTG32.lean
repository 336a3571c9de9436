/-
  The scanner's numbers. No condition beyond each lemma's own.
-/
import Derived.Test.YtnbckfkdmkbopaaGreatDoorTG31
import Derived.Laws.IdiomStrings
set_option autoImplicit false
namespace Go.Proofs.YtnbckfkdmkbopaaGreatDoor
open Go Go.RowKit

theorem headLet_at {l : Str} {k : Nat} {x : UInt8} (h : l[k]? = some x) : headLet (l.drop k) = letB x := by
  obtain ⟨hk, rfl⟩ := List.getElem?_eq_some_iff.1 h
  rw [List.drop_eq_getElem_cons hk]; rfl
theorem headLet_end {l : Str} {k : Nat} (h : l.length ≤ k) : headLet (l.drop k) = false := by rw [List.drop_of_length_le h]; rfl
/-- a text's bytes, in new memory -/
theorem conv_bytes (u : Str) (w : World) : ∃ cap o, (convert 9 157 (sv u)).run Tryz.prog w = .ok (.slice (some ⟨w.heap.size, 0, none⟩) u.length cap) ((w.alloc o).drew) ∧
    ∀ (W : World), Chg NoB (w.alloc o).drew W → ∀ j b, u[j]? = some b → W.cell? ⟨w.heap.size, j, none⟩ = some (.int .u8 (b.toNat : Int)) := by
  have h := run_bytes_of_string (P := Tryz.prog) w 9 157 5 ⟨u.toArray⟩ Tryz.underlying9 Tryz.underlying157 Tryz.underlying5
  refine ⟨_, _, by rw [show (ByteArray.mk u.toArray).size = u.length from by show Array.size _ = _; simp] at h; exact h, fun W hW j b hj => ?_⟩
  have hb := hW.heap (hal_new (w := w)) (fun h => h)
  obtain ⟨hj', rfl⟩ := List.getElem?_eq_some_iff.1 hj
  have := bytesRow_at ⟨u.toArray⟩ (grownCap w u.length 0 5) j (by simpa using hj')
  have hc : W.cell? ⟨w.heap.size, j, none⟩ = (bytesRow ⟨u.toArray⟩ (grownCap w u.length 0 5))[j]? := cell_of_row W _ _ _ _ _ hb
  rw [hc, this]
  simp
abbrev big63 : Int := 9223372036854775807
/-- the digits so far: n, or too great -/
def NumIs (u : Str) (k : Nat) (a e : Value) : Prop :=
  (∃ n : Int, 0 ≤ n ∧ n ≤ big63 ∧ a = .int .i64 n ∧ e = .int .i64 0 ∧ numL (u.drop k) n = numL u 0) ∨ (e = .int .i64 35 ∧ numL u 0 = none ∧ ∃ n : Int, a = .int .i64 n)
theorem takeWhile_dig {u l : Str} (h : l.takeWhile digB = u) {k : Nat} {x : UInt8} (hx : u[k]? = some x) : digB x = true := takeWhile_all digB l x (by rw [h]; exact List.mem_of_getElem? hx)
theorem numL_step {u : Str} {k : Nat} {x : UInt8} (hx : u[k]? = some x) (n : Int) : numL (u.drop k) n = if (9223372036854775807 - ((x.toNat : Int) - 48)) / 10 < n then none else numL (u.drop (k + 1)) (10 * n + ((x.toNat : Int) - 48)) := by
  obtain ⟨hk, rfl⟩ := List.getElem?_eq_some_iff.1 hx
  rw [List.drop_eq_getElem_cons hk]; rfl
theorem dig_bd {x : UInt8} (h : digB x = true) : 48 ≤ (x.toNat : Int) ∧ (x.toNat : Int) ≤ 57 := by
  rw [digB_eq] at h
  simp at h
  omega
theorem numberL_let {l : Str} (h : headLet (l.dropWhile digB) = true) : numberL l = none := by
  unfold numberL
  cases numL (l.takeWhile digB) 0 with
  | none => rfl
  | some n => simp [h]
theorem numberL_big {l u : Str} (hu : l.takeWhile digB = u) (h : numL u 0 = none) : numberL l = none := by
  unfold numberL
  rw [hu, h]
theorem numberL_ok {l u : Str} {n : Int} (hu : l.takeWhile digB = u) (h : numL u 0 = some n) (hh : headLet (l.dropWhile digB) = false) : numberL l = some (⟨3, [], n⟩, l.dropWhile digB) := by
  unfold numberL
  rw [hu, h]
  simp [hh]
set_option maxRecDepth 100000 in
set_option maxHeartbeats 1000000 in
theorem number_any (l : Str) (c k : Nat) (w : World) (hk : k ≤ l.length) (hl : l.length ≤ 2048) (hc : ScanAt w c l k) :
    Calls Tryz.prog 99 #[.pointer (some ⟨c, 0, none⟩)] w (TokOut (numberL (l.drop k)) l c w) := by
  obtain ⟨u, hu⟩ : ∃ u, (l.drop k).takeWhile digB = u := ⟨_, rfl⟩
  have hcl := lt_of_heap hc
  have HC : Hid (ScanAt (w.alloc (.cells #[.int .i64 0, .string ⟨#[]⟩, .int .i64 0] 133)) c l k) := Lib.hid ((hal_old hcl).trans hc)
  have hul : u.length ≤ 2048 := by
    have := (List.takeWhile_sublist (l := l.drop k) digB).length_le
    rw [hu] at this
    simp at this
    omega
  have HU := Lib.hid hu
  have HD := Lib.hid (runTo_drop digB l k)
  have hke := (runTo_le (p := digB) hk).2
  obtain ⟨k2, hk2⟩ : ∃ k2, runTo digB l k = k2 := ⟨_, rfl⟩
  rw [hk2] at hke
  have HK2 := Lib.hid hk2
  clear hc hu hk2
  go_enter Tryz.func99, Tryz.ntmps99
  go_wp2_with fail
  refine (run_digB l c k _ hk hl HC.out).mono ?_
  rw [HU.out]
  rintro e w1 ⟨rfl, H1⟩
  obtain ⟨cap, o, hcv, hcells⟩ := conv_bytes u w1
  have HCE := Lib.hid hcells
  clear hcells
  have X1 : Hid (Chg (OneB c) w w1) := Lib.hid (((Chg.refl _ _).alloc _).trans H1.out.2 (fun _ h => .inl h))
  have B1 : Hid (w1.heap[w.heap.size]? = some (.cells #[.int .i64 0, .string ⟨#[]⟩, .int .i64 0] 133 (0, 0))) := Lib.hid (H1.out.2.heap hal_new (by omega))
  have S1 : Hid (ScanAt w1 c l k2) := Lib.hid (by rw [← HK2.out]; exact H1.out.1)
  clear H1
  go_wp2
  go_loop [4, 5, 13] (fun a e i => ∃ j : Nat, j ≤ u.length ∧ i = .int .i64 j ∧ Hid (NumIs u j a e)) (fun _ _ i => u.length - (intOf i).toNat)
  case atStart => exact ⟨0, Nat.zero_le _, rfl, Lib.hid (.inl ⟨0, by decide, by decide, rfl, rfl, rfl⟩)⟩
  case round =>
    obtain ⟨j, hj, rfl, HN⟩ := hrel
    by_cases hlt : j < u.length
    · obtain ⟨x, hx⟩ : ∃ x, u[j]? = some x := ⟨_, List.getElem?_eq_getElem hlt⟩
      have hcx := HCE.out (w1.alloc o).drew (Chg.refl _ _) j x hx
      obtain ⟨hd1, hd2⟩ := dig_bd (takeWhile_dig HU.out hx)
      have HS := Lib.hid (numL_step hx)
      clear hx
      rcases HN.out with ⟨n, hn0, hn1, rfl, rfl, hN⟩ | ⟨rfl, hN, n, rfl⟩
      · have HN' := Lib.hid hN
        clear hN
        by_cases hq : (9223372036854775807 - ((x.toNat : Int) - 48)) / 10 < n
        · have HQ := Lib.hid hq
          go_wp2
          go_round
          case rel => exact ⟨j + 1, by omega, by go_num, Lib.hid (.inr ⟨rfl, by rw [← HN'.out, HS.out n, if_pos HQ.out], _, rfl⟩)⟩
          case measure => simp [intOf]; omega
        · have HQ := Lib.hid hq
          go_wp2
          go_round
          case rel => exact ⟨j + 1, by omega, by go_num, Lib.hid (.inl ⟨_, by omega, by have := HQ.out; unfold big63; omega, rfl, rfl, by rw [← HN'.out, HS.out n, if_neg HQ.out]⟩)⟩
          case measure => simp [intOf]; omega
      · have HN' := Lib.hid hN
        clear hN
        go_wp2
        all_goals
          go_round
          case rel => exact ⟨j + 1, by omega, by go_num, Lib.hid (.inr ⟨rfl, HN'.out, _, rfl⟩)⟩
          case measure => simp [intOf]; omega
    · have X2 : Hid (Chg (OneB c) w (w1.alloc o).drew) := Lib.hid (X1.out.alloc _).drew
      have B2 : Hid ((w1.alloc o).drew.heap[w.heap.size]? = some (.cells #[.int .i64 0, .string ⟨#[]⟩, .int .i64 0] 133 (0, 0))) := Lib.hid ((hal_old (lt_of_heap B1.out)).trans B1.out)
      have S2 : Hid (ScanAt (w1.alloc o).drew c l k2) := Lib.hid ((hal_old (lt_of_heap S1.out)).trans S1.out)
      have HJ := Lib.hid (show j = u.length by omega)
      clear hcv HCE
      go_wp2
      generalize (w1.alloc o).drew = w2 at X2 B2 S2 ⊢
      have c0 : w2.cell? ⟨c, 0, none⟩ = some (sv l) := cell_of_row w2 c 0 _ _ _ S2.out
      have c1 : w2.cell? ⟨c, 1, none⟩ = some (.int .i64 k2) := cell_of_row w2 c 1 _ _ _ S2.out
      have b0 : w2.cell? ⟨w.heap.size, 0, none⟩ = some (.int .i64 0) := cell_of_row w2 _ 0 _ _ _ B2.out
      have b1 : w2.cell? ⟨w.heap.size, 1, none⟩ = some (.string ⟨#[]⟩) := cell_of_row w2 _ 1 _ _ _ B2.out
      have b2 : w2.cell? ⟨w.heap.size, 2, none⟩ = some (.int .i64 0) := cell_of_row w2 _ 2 _ _ _ B2.out
      have fz : ∀ o, w2.frozen? ⟨w.heap.size, o, none⟩ = false := fun o => by simp [World.frozen?, B2.out]
      have HD' : Hid (l.drop k2 = (l.drop k).dropWhile digB) := Lib.hid (by rw [← HK2.out]; exact HD.out)
      by_cases hlt2 : k2 < l.length
      · obtain ⟨x, hx⟩ : ∃ x, l[k2]? = some x := ⟨_, List.getElem?_eq_getElem hlt2⟩
        have hb := ba_get hx
        have HL := Lib.hid (headLet_at hx)
        clear hx
        cases hsp : letB x with
        | true =>
          have HP := Lib.hid hsp
          clear hsp
          have HO : Hid (numberL (l.drop k) = none) := Lib.hid (numberL_let (by rw [← HD'.out, HL.out, HP.out]))
          rcases HN.out with ⟨n, _, _, rfl, rfl, hN⟩ | ⟨rfl, hN, n, rfl⟩
          all_goals
            clear hN
            go_quiet ((go_at_call 96; exact quiet_g ⟨_, rfl⟩ (letter_is HP.out _)))
            go_wp2
            refine tok_ret rfl rfl rfl (tok_set B2.out _ _ _) (TokOut.no (r := numberL (l.drop k)) (HO.out) (((((X2.out.drewN _).setCell (.inr (Nat.le_refl _)) _).setCell (.inr (Nat.le_refl _)) _).setCell (.inr (Nat.le_refl _)) _)) (by decide))
        | false =>
          have HP := Lib.hid hsp
          clear hsp
          rcases HN.out with ⟨n, _, _, rfl, rfl, hN⟩ | ⟨rfl, hN, n, rfl⟩
          · have HN' : Hid (numL u 0 = some n) := Lib.hid (by rw [← hN, HJ.out, List.drop_of_length_le (Nat.le_refl _)]; rfl)
            clear hN
            go_quiet ((go_at_call 96; exact quiet_g ⟨_, rfl⟩ (letter_is HP.out _)))
            go_wp2
            refine tok_ret rfl rfl rfl (tok_set B2.out _ _ _) (TokOut.yes (r := numberL (l.drop k)) (t := ⟨3, [], n⟩) (rest := (l.drop k).dropWhile digB) (numberL_ok HU.out HN'.out (by rw [← HD'.out]; exact HL.out.trans HP.out)) (((((X2.out.drewN _).setCell (.inr (Nat.le_refl _)) _).setCell (.inr (Nat.le_refl _)) _).setCell (.inr (Nat.le_refl _)) _)) hke HD'.out ?_)
            exact (hset_ne (by omega)).trans ((hset_ne (by omega)).trans ((hset_ne (by omega)).trans S2.out))
          · have HO : Hid (numberL (l.drop k) = none) := Lib.hid (numberL_big HU.out hN)
            clear hN
            go_quiet ((go_at_call 96; exact quiet_g ⟨_, rfl⟩ (letter_is HP.out _)))
            go_wp2
            refine tok_ret rfl rfl rfl (tok_set B2.out _ _ _) (TokOut.no (r := numberL (l.drop k)) (HO.out) (((((X2.out.drewN _).setCell (.inr (Nat.le_refl _)) _).setCell (.inr (Nat.le_refl _)) _).setCell (.inr (Nat.le_refl _)) _)) (by decide))
      · rcases HN.out with ⟨n, _, _, rfl, rfl, hN⟩ | ⟨rfl, hN, n, rfl⟩
        · have HN' : Hid (numL u 0 = some n) := Lib.hid (by rw [← hN, HJ.out, List.drop_of_length_le (Nat.le_refl _)]; rfl)
          clear hN
          go_quiet (fail)
          go_wp2
          refine tok_ret rfl rfl rfl (tok_set B2.out _ _ _) (TokOut.yes (r := numberL (l.drop k)) (t := ⟨3, [], n⟩) (rest := (l.drop k).dropWhile digB) (numberL_ok HU.out HN'.out (by rw [← HD'.out]; exact headLet_end (by omega))) (((((X2.out.drewN _).setCell (.inr (Nat.le_refl _)) _).setCell (.inr (Nat.le_refl _)) _).setCell (.inr (Nat.le_refl _)) _)) hke HD'.out ?_)
          exact (hset_ne (by omega)).trans ((hset_ne (by omega)).trans ((hset_ne (by omega)).trans S2.out))
        · have HO : Hid (numberL (l.drop k) = none) := Lib.hid (numberL_big HU.out hN)
          clear hN
          go_quiet (fail)
          go_wp2
          refine tok_ret rfl rfl rfl (tok_set B2.out _ _ _) (TokOut.no (r := numberL (l.drop k)) (HO.out) (((((X2.out.drewN _).setCell (.inr (Nat.le_refl _)) _).setCell (.inr (Nat.le_refl _)) _).setCell (.inr (Nat.le_refl _)) _)) (by decide))
end Go.Proofs.YtnbckfkdmkbopaaGreatDoor
