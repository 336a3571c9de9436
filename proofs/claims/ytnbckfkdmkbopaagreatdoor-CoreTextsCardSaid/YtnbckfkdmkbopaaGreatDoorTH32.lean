/-
  The scanner's signs. No condition beyond each lemma's own.
  The scanner, whole: a text's tokens. No condition beyond each lemma's own.
-/
import Derived.Test.YtnbckfkdmkbopaaGreatDoorTH31
set_option autoImplicit false
namespace Go.Proofs.YtnbckfkdmkbopaaGreatDoor
open Go Go.RowKit

theorem sgs_size : (ByteArray.mk sgs.toArray).size < 4294967281 := by decide +kernel
theorem sg_any (u : Str) {b : Bool} (hb : isSg u = b) (w : World) (hg : Glob w) : Calls Tryz.prog 143 #[.string ⟨sgs.toArray⟩, sv (32 :: (u ++ [32]))] w fun e w' => e = .returned (.bool b) ∧ w = w' := by
  refine (contains_at _ _ w hg sgs_size).mono ?_
  rintro e w' ⟨rfl, rfl⟩
  rw [← hb]
  exact ⟨rfl, rfl⟩
/-- so many bytes from a place on -/
def cutL (l : Str) (k m : Nat) : Str := l.extract k (k + m)
theorem cutL_len (l : Str) (k m : Nat) (h : k + m ≤ l.length) : (cutL l k m).length = m := by
  unfold cutL; rw [List.extract_eq_take_drop]; simp; omega
theorem cutL_two {l : Str} {k : Nat} (h : k + 2 ≤ l.length) : ∃ a b, cutL l k 2 = [a, b] ∧ cutL l k 1 = [a] ∧ l.drop k = a :: b :: l.drop (k + 2) := by
  have h1 : k < l.length := by omega
  have h2 : k + 1 < l.length := by omega
  refine ⟨l[k], l[k + 1], ?_, ?_, ?_⟩
  · unfold cutL; rw [List.extract_eq_take_drop, List.drop_eq_getElem_cons h1, List.drop_eq_getElem_cons h2, Nat.add_sub_cancel_left]; rfl
  · unfold cutL; rw [List.extract_eq_take_drop, List.drop_eq_getElem_cons h1, Nat.add_sub_cancel_left]; rfl
  · rw [List.drop_eq_getElem_cons h1, List.drop_eq_getElem_cons h2]
theorem cutL_one {l : Str} {k : Nat} (h : k + 1 = l.length) : ∃ a, cutL l k 1 = [a] ∧ l.drop k = [a] := by
  have h1 : k < l.length := by omega
  refine ⟨l[k], ?_, ?_⟩
  · unfold cutL; rw [List.extract_eq_take_drop, List.drop_eq_getElem_cons h1, Nat.add_sub_cancel_left]; rfl
  · rw [List.drop_eq_getElem_cons h1, List.drop_of_length_le (by omega)]
theorem signL_2 {l : Str} {k : Nat} (h : k + 2 ≤ l.length) (hs : isSg (cutL l k 2) = true) : signL (l.drop k) = some (⟨5, cutL l k 2, 0⟩, l.drop (k + 2)) := by
  obtain ⟨a, b, e2, e1, ed⟩ := cutL_two h
  rw [ed, e2]; rw [e2] at hs
  simp [signL, hs]
theorem signL_1 {l : Str} {k : Nat} (h : k + 1 ≤ l.length) (h2 : k + 2 ≤ l.length → isSg (cutL l k 2) = false) (hs : isSg (cutL l k 1) = true) : signL (l.drop k) = some (⟨5, cutL l k 1, 0⟩, l.drop (k + 1)) := by
  by_cases hk : k + 2 ≤ l.length
  · obtain ⟨a, b, e2, e1, ed⟩ := cutL_two hk
    have h2 := h2 hk
    have hd : l.drop (k + 1) = b :: l.drop (k + 2) := by
      have : l.drop (k + 1) = (l.drop k).drop 1 := by rw [List.drop_drop, Nat.add_comm]
      rw [this, ed]; rfl
    rw [ed, e1, hd]; rw [e2] at h2; rw [e1] at hs
    simp [signL, h2, hs]
  · obtain ⟨a, e1, ed⟩ := cutL_one (show k + 1 = l.length by omega)
    rw [ed, e1, List.drop_of_length_le (by omega)]; rw [e1] at hs
    simp [signL, hs]
theorem signL_0 {l : Str} {k : Nat} (h2 : k + 2 ≤ l.length → isSg (cutL l k 2) = false) (h1 : k + 1 ≤ l.length → isSg (cutL l k 1) = false) : signL (l.drop k) = none := by
  by_cases hk : k + 2 ≤ l.length
  · obtain ⟨a, b, e2, e1, ed⟩ := cutL_two hk
    have h2 := h2 hk; have h1 := h1 (by omega)
    rw [ed]; rw [e2] at h2; rw [e1] at h1
    simp [signL, h2, h1]
  · by_cases hk1 : k + 1 = l.length
    · obtain ⟨a, e1, ed⟩ := cutL_one hk1
      have h1 := h1 (by omega)
      rw [ed]; rw [e1] at h1
      simp [signL, h1]
    · rw [List.drop_of_length_le (by omega)]
      rfl
set_option maxRecDepth 100000 in
set_option maxHeartbeats 2000000 in
theorem sign_any (l : Str) (c k : Nat) (w : World) (hk : k ≤ l.length) (hl : l.length ≤ 2048) (hc : ScanAt w c l k) (hg : Glob w) :
    Calls Tryz.prog 101 #[.pointer (some ⟨c, 0, none⟩)] w (TokOut (signL (l.drop k)) l c w) := by
  have hcl := lt_of_heap hc
  have HC := Lib.hid hc
  have HG := Lib.hid hg
  have hcn : ¬ c = w.heap.size := by omega
  clear hc hg
  go_enter Tryz.func101, Tryz.ntmps101
  go_wp2
  go_loopw [4] (fun v wr => ∃ m : Nat, m ≤ 2 ∧ v = .int .i64 m ∧ Hid (m ≤ 1 → k + 2 ≤ l.length → isSg (cutL l k 2) = false) ∧ Hid (m = 0 → k + 1 ≤ l.length → isSg (cutL l k 1) = false) ∧ Hid (ScanAt wr c l k) ∧ Hid (wr.heap[w.heap.size]? = some (.cells #[.int .i64 0, .string ⟨#[]⟩, .int .i64 0] 133 (0, 0))) ∧ Hid (Chg NoB w wr)) (fun v _ => (intOf v).toNat)
  case atStart => exact ⟨2, by omega, rfl, Lib.hid (fun h => by omega), Lib.hid (fun h => by omega), Lib.hid ((hal_old hcl).trans HC.out), Lib.hid hal_new, Lib.hid ((Chg.refl _ _).alloc _)⟩
  case round =>
    obtain ⟨m, hm, rfl, H2, H1, SC, BK, CX⟩ := hrel
    have c0 : wr.cell? ⟨c, 0, none⟩ = some (sv l) := cell_of_row wr c 0 _ _ _ SC.out
    have c1 : wr.cell? ⟨c, 1, none⟩ = some (.int .i64 k) := cell_of_row wr c 1 _ _ _ SC.out
    have f1 : wr.frozen? ⟨c, 1, none⟩ = false := by simp [World.frozen?, SC.out]
    have b0 : wr.cell? ⟨w.heap.size, 0, none⟩ = some (.int .i64 0) := cell_of_row wr _ 0 _ _ _ BK.out
    have b1 : wr.cell? ⟨w.heap.size, 1, none⟩ = some (.string ⟨#[]⟩) := cell_of_row wr _ 1 _ _ _ BK.out
    have b2 : wr.cell? ⟨w.heap.size, 2, none⟩ = some (.int .i64 0) := cell_of_row wr _ 2 _ _ _ BK.out
    have fz : ∀ o, wr.frozen? ⟨w.heap.size, o, none⟩ = false := fun o => by simp [World.frozen?, BK.out]
    by_cases hm0 : 0 < m
    · by_cases hfit : k + m ≤ l.length
      · have h1 : (cutL l k m).length ≤ 2048 := by rw [cutL_len l k m hfit]; omega
        obtain ⟨n, hn⟩ : ∃ n, k + m = n := ⟨_, rfl⟩
        have hex : (ByteArray.mk l.toArray).extract k n = ⟨(cutL l k m).toArray⟩ := by rw [← hn]; exact ba_extract _ _ _
        have hkn : k ≤ n := by omega
        have hnl : n ≤ l.length := by omega
        have hw1 : IntKind.i64.wrap ((k : Int) + m) = (n : Int) := by rw [IntWalk.i64_in _ (by omega)]; omega
        have HN := Lib.hid hn
        clear hn hfit
        cases hs : isSg (cutL l k m) with
        | true =>
          have HS := Lib.hid hs
          clear hs
          go_wp2
          go_quiet ((go_at_call 143; exact quiet_g ⟨_, rfl⟩ (sg_any (cutL l k m) HS.out _ (HG.out.quiet (CX.out.drewN _)))))
          go_wp2
          generalize hW : World.setCell (wr.drewN _) _ _ = W
          have S9 : Hid (ScanAt W c l n) := Lib.hid (by rw [← hW]; exact scan_set (w := wr.drewN nq) SC.out n)
          have B9 : Hid (W.heap[w.heap.size]? = some (.cells #[.int .i64 0, .string ⟨#[]⟩, .int .i64 0] 133 (0, 0))) := Lib.hid (by rw [← hW]; exact (hset_ne (by omega)).trans BK.out)
          have X9 : Hid (Chg (OneB c) w W) := Lib.hid (by rw [← hW]; exact (Chg.of_no (F := OneB c) (CX.out.drewN _)).setCell (p := ⟨c, 1, none⟩) (.inl rfl) _)
          clear hW c0 c1 f1 b0 b1 b2 fz hw1
          have hw3 : IntKind.i64.wrap ((n : Int) - m) = (k : Int) := by have := HN.out; rw [IntWalk.i64_in _ (by omega)]; omega
          have HS3 : Hid (∀ V : World, V.heap[c]? = W.heap[c]? → V.cell? ⟨c, 0, none⟩ = some (sv l) ∧ V.cell? ⟨c, 1, none⟩ = some (.int .i64 n)) := Lib.hid fun V hV => by
            have a := hV.trans S9.out
            exact ⟨cell_of_row V c 0 _ _ _ a, cell_of_row V c 1 _ _ _ a⟩
          have b0 : W.cell? ⟨w.heap.size, 0, none⟩ = some (.int .i64 0) := cell_of_row W _ 0 _ _ _ B9.out
          have b1 : W.cell? ⟨w.heap.size, 1, none⟩ = some (.string ⟨#[]⟩) := cell_of_row W _ 1 _ _ _ B9.out
          have b2 : W.cell? ⟨w.heap.size, 2, none⟩ = some (.int .i64 0) := cell_of_row W _ 2 _ _ _ B9.out
          have fz : ∀ o, W.frozen? ⟨w.heap.size, o, none⟩ = false := fun o => by simp [World.frozen?, B9.out]
          refine wp_region_lex (fun V => V.cell? ⟨c, 0, none⟩ = some (sv l) ∧ V.cell? ⟨c, 1, none⟩ = some (.int .i64 n)) 17 [16, 17] [0, 1, 2, 3, 4, 5, 6, 7, 8, 9, 10, 11, 12, 13, 14, 15, 16, 17] (by kernel_rfl) (by kernel_rfl) (HS3.out _ rfl) ?_
          iterate 16
            refine' lex_free (v := _) rfl rfl rfl ?_ (fun _ _ _ h => h) ?_
            rotate_left
            · rintro W ⟨hW1, hW2⟩
              go_simp
              with_reducible rfl
            try simp only [Act.put, List.setIfInBounds_toArray, List.set_cons_zero, List.set_cons_succ]
          refine lex_op rfl rfl rfl (fun K hK => ?_)
          go_simp
          refine hK _ _ (fun _ => HS3.out _ ((hset_ne (by omega)).trans ((hset_ne (by omega)).trans (hset_ne (by omega))))) ?_
          clear hK K
          try simp only [Act.put, List.setIfInBounds_toArray, List.set_cons_zero, List.set_cons_succ]
          refine lex_op rfl rfl rfl (fun K hK => ?_)
          go_simp
          refine hK _ _ (fun h => absurd rfl h) ?_
          clear hK K
          try simp only [Act.put, List.setIfInBounds_toArray, List.set_cons_zero, List.set_cons_succ]
          refine lex_nil ?_
          go_wp2
          refine tok_ret rfl rfl rfl (tok_set (w := W.drew) B9.out _ _ _) (TokOut.yes (r := signL (l.drop k)) (t := ⟨5, cutL l k m, 0⟩) (rest := l.drop n) ?_ (((X9.out.drew.setCell (.inr (Nat.le_refl _)) _).setCell (.inr (Nat.le_refl _)) _).setCell (.inr (Nat.le_refl _)) _) hnl rfl ((hset_ne (by omega)).trans ((hset_ne (by omega)).trans ((hset_ne (by omega)).trans S9.out))))
          have hn := HN.out
          subst hn
          rcases (show m = 1 ∨ m = 2 by omega) with rfl | rfl
          · exact signL_1 (by omega) (H2.out (by omega)) HS.out
          · exact signL_2 (by omega) HS.out
        | false =>
          have HS := Lib.hid hs
          clear hs
          go_wp2
          go_quiet ((go_at_call 143; exact quiet_g ⟨_, rfl⟩ (sg_any (cutL l k m) HS.out _ (HG.out.quiet (CX.out.drewN _)))))
          clear hw1
          go_wp2
          refine ⟨⟨m - 1, by omega, by rw [show ((m - 1 : Nat) : Int) = (m : Int) - 1 by omega], Lib.hid (fun _ h => ?_), Lib.hid (fun h0 h => ?_), SC, BK, Lib.hid (CX.out.drewN _)⟩, by simp [intOf]; omega⟩
          · rcases (show m = 1 ∨ m = 2 by omega) with rfl | rfl
            · exact H2.out (by omega) h
            · exact HS.out
          · obtain rfl : m = 1 := by omega
            exact HS.out
      · have hfit' : decide ((k : Int) + m ≤ (l.length : Int)) = false := by simp; omega
        have HF := Lib.hid hfit
        have hw1 : IntKind.i64.wrap ((k : Int) + m) = (k : Int) + m := IntWalk.i64_in _ (by omega)
        go_wp2
        go_quiet (fail)
        clear hw1
        go_wp2
        refine ⟨⟨m - 1, by omega, by rw [show ((m - 1 : Nat) : Int) = (m : Int) - 1 by omega], Lib.hid (fun _ h => ?_), Lib.hid (fun h0 h => ?_), SC, BK, Lib.hid (CX.out.drewN _)⟩, by simp [intOf]; omega⟩
        · rcases (show m = 1 ∨ m = 2 by omega) with rfl | rfl
          · exact H2.out (by omega) h
          · exact absurd h HF.out
        · obtain rfl : m = 1 := by omega
          exact absurd h HF.out
    · go_wp2
      obtain rfl : m = 0 := by omega
      refine tok_ret rfl rfl rfl (tok_set BK.out _ _ _) (TokOut.no (r := signL (l.drop k)) (signL_0 (H2.out (by omega)) (H1.out rfl)) (((CX.out.of_no.setCell (.inr (Nat.le_refl _)) _).setCell (.inr (Nat.le_refl _)) _).setCell (.inr (Nat.le_refl _)) _) (by decide))
end Go.Proofs.YtnbckfkdmkbopaaGreatDoor

set_option autoImplicit false
namespace Go.Proofs.YtnbckfkdmkbopaaGreatDoor
open Go Go.RowKit

/-- who takes the token that such a byte begins -/
def tk (x : UInt8) : Nat := if letB x then 97 else if digB x then 99 else if x == 39 then 100 else 101
theorem tk_cases (x : UInt8) : (letB x = true ∧ tk x = 97) ∨ (letB x = false ∧ digB x = true ∧ tk x = 99) ∨ (letB x = false ∧ digB x = false ∧ x = 39 ∧ tk x = 100) ∨ (letB x = false ∧ digB x = false ∧ ¬ x = 39 ∧ tk x = 101) := by
  unfold tk
  cases letB x with
  | true => exact .inl ⟨rfl, rfl⟩
  | false =>
    cases digB x with
    | true => exact .inr (.inl ⟨rfl, rfl, rfl⟩)
    | false =>
      by_cases h : x = 39
      · exact .inr (.inr (.inl ⟨rfl, rfl, h, by simp [h]⟩))
      · exact .inr (.inr (.inr ⟨rfl, rfl, h, by simp [h]⟩))
set_option maxRecDepth 100000 in
set_option maxHeartbeats 1000000 in
theorem stake_any (l : Str) (c k : Nat) (x : UInt8) (w : World) (hx : l[k]? = some x) (hc : ScanAt w c l k) :
    Calls Tryz.prog 64 #[.pointer (some ⟨c, 0, none⟩)] w fun e w' => e = .returned (.func (.func (tk x)) #[.pointer (some ⟨c, 0, none⟩)] #[]) ∧ Chg NoB w w' := by
  have hlt := (List.getElem?_eq_some_iff.1 hx).1
  have c0 : w.cell? ⟨c, 0, none⟩ = some (sv l) := cell_of_row w c 0 _ _ _ hc
  have c1 : w.cell? ⟨c, 1, none⟩ = some (.int .i64 k) := cell_of_row w c 1 _ _ _ hc
  have hb := ba_get hx
  have hmf : ∀ (fn : Fn) (first cap : Array Value) (w : World), (Instr.makeFunc fn first cap).run Tryz.prog w = .ok (.func fn first cap) w := fun _ _ _ _ => rfl
  clear hx hc
  rcases tk_cases x with ⟨h1, ht⟩ | ⟨h1, h2, ht⟩ | ⟨h1, h2, h3, ht⟩ | ⟨h1, h2, h3, ht⟩
  · have H1 := Lib.hid h1; have HT := Lib.hid ht
    clear h1 ht
    go_enter Tryz.func64, Tryz.ntmps64
    go_wp2
    go_quiet (fail)
    go_wp2_with (go_at_call 96; refine (letter_is H1.out _).mono ?_; rintro e w' ⟨rfl, rfl⟩)
    go_ret
    exact ⟨by rw [HT.out]; rfl, (Chg.refl _ _).drewN _⟩
  · have H1 := Lib.hid h1; have H2 := Lib.hid h2; have HT := Lib.hid ht
    clear h1 h2 ht
    go_enter Tryz.func64, Tryz.ntmps64
    go_wp2
    go_quiet (fail)
    go_wp2_with (first | (go_at_call 96; refine (letter_is H1.out _).mono ?_; rintro e w' ⟨rfl, rfl⟩) | (go_at_call 98; refine (digit_is H2.out _).mono ?_; rintro e w' ⟨rfl, rfl⟩))
    go_ret
    exact ⟨by rw [HT.out]; rfl, (Chg.refl _ _).drewN _⟩
  · subst h3
    have H1 := Lib.hid h1; have H2 := Lib.hid h2; have HT := Lib.hid ht
    clear h1 h2 ht
    go_enter Tryz.func64, Tryz.ntmps64
    go_wp2
    go_quiet (fail)
    go_wp2_with (first | (go_at_call 96; refine (letter_is (c := 39) H1.out _).mono ?_; rintro e w' ⟨rfl, rfl⟩) | (go_at_call 98; refine (digit_is (c := 39) H2.out _).mono ?_; rintro e w' ⟨rfl, rfl⟩))
    go_ret
    exact ⟨by rw [HT.out]; rfl, (Chg.refl _ _).drewN _⟩
  · have hne : ¬ ((x.toNat : Int) = 39) := fun e => h3 (UInt8.toNat_inj.1 (by have : (39 : UInt8).toNat = 39 := rfl; omega))
    have H1 := Lib.hid h1; have H2 := Lib.hid h2; have HT := Lib.hid ht
    clear h1 h2 h3 ht
    go_enter Tryz.func64, Tryz.ntmps64
    go_wp2
    go_quiet (fail)
    go_wp2_with (first | (go_at_call 96; refine (letter_is H1.out _).mono ?_; rintro e w' ⟨rfl, rfl⟩) | (go_at_call 98; refine (digit_is H2.out _).mono ?_; rintro e w' ⟨rfl, rfl⟩))
    go_ret
    exact ⟨by rw [HT.out]; rfl, (Chg.refl _ _).drewN _⟩
theorem drop_cons {l : Str} {k : Nat} {x : UInt8} (hx : l[k]? = some x) : l.drop k = x :: l.drop (k + 1) := by
  obtain ⟨hk, rfl⟩ := List.getElem?_eq_some_iff.1 hx
  exact List.drop_eq_getElem_cons hk
theorem lone_any {x : UInt8} {f : Nat} (hf : tk x = f) (l : Str) (c k : Nat) (w : World) (hx : l[k]? = some x) (hl : l.length ≤ 2048) (hc : ScanAt w c l k) (hg : Glob w) (hc10 : 10 ≤ c) :
    Calls Tryz.prog f #[.pointer (some ⟨c, 0, none⟩)] w (TokOut (oneL x (l.drop (k + 1))) l c w) := by
  have hlt := (List.getElem?_eq_some_iff.1 hx).1
  rcases tk_cases x with ⟨h1, ht⟩ | ⟨h1, h2, ht⟩ | ⟨h1, h2, h3, ht⟩ | ⟨h1, h2, h3, ht⟩
  · have e : oneL x (l.drop (k + 1)) = wordL (l.drop k) := by rw [drop_cons hx]; simp [oneL, h1]
    rw [e, ← hf, ht]
    exact word_any l c k w (by omega) hl hc hg hc10
  · have e : oneL x (l.drop (k + 1)) = numberL (l.drop k) := by rw [drop_cons hx]; simp [oneL, h1, h2]
    rw [e, ← hf, ht]
    exact number_any l c k w (by omega) hl hc
  · have e : oneL x (l.drop (k + 1)) = quoteL (l.drop (k + 1)) := by subst h3; simp [oneL, h1, h2]
    rw [e, ← hf, ht]
    exact text_any l c k w hlt hl hc
  · have e : oneL x (l.drop (k + 1)) = signL (l.drop k) := by rw [drop_cons hx]; simp [oneL, h1, h2, h3]
    rw [e, ← hf, ht]
    exact sign_any l c k w (by omega) hl hc hg
/-! the tokens of a whole text -/
def AllOut (r : Option (List Tok)) (w : World) (e : Ending) (w' : World) : Prop :=
  Chg NoB w w' ∧ match r with
  | none => ∃ q : Int, q ≠ 0 ∧ e = .returned (.tuple #[nilS, .int .i64 q])
  | some ts => ∃ ao c, e = .returned (.tuple #[.slice ao ts.length c, .int .i64 0]) ∧ ts.length ≤ c ∧ ToksAt w' (fun k => w.heap.size ≤ k) (.slice ao ts.length c) ts ∧ ts.length ≤ 2048
theorem AllOut.no {r : Option (List Tok)} {w w' : World} {q : Int} (hr : r = none) (hq : q ≠ 0) (h : Chg NoB w w') : AllOut r w (.returned (.tuple #[nilS, .int .i64 q])) w' := by
  subst hr; exact ⟨h, q, hq, rfl⟩
theorem AllOut.yes {r : Option (List Tok)} {w w' : World} {ao : Option Addr} {c : Nat} {ts : List Tok} (hr : r = some ts) (h : Chg NoB w w') (hc : ts.length ≤ c) (ht : ToksAt w' (fun k => w.heap.size ≤ k) (.slice ao ts.length c) ts) (hl : ts.length ≤ 2048) : AllOut r w (.returned (.tuple #[.slice ao ts.length c, .int .i64 0])) w' := by
  subst hr; exact ⟨h, ao, c, rfl, hc, ht, hl⟩
theorem dropWhile_twice (p : UInt8 → Bool) : ∀ (l : Str), (l.dropWhile p).dropWhile p = l.dropWhile p
  | [] => rfl
  | x :: l => by
    cases h : p x with
    | true => simp only [List.dropWhile_cons, h, if_true]; exact dropWhile_twice p l
    | false => simp [h]
theorem lexAll_sp (n : Nat) (l : Str) : lexAll n (l.dropWhile spB) = lexAll n l := by
  cases n <;> (conv => lhs; unfold lexAll) <;> (conv => rhs; unfold lexAll) <;> rw [dropWhile_twice]
theorem lexAll_end (n : Nat) : lexAll n [] = some [] := by cases n <;> rfl
theorem lexAll_cons {n : Nat} {x : UInt8} {r : Str} (h : spB x = false) : lexAll (n + 1) (x :: r) = match oneL x r with
    | none => none
    | some (t, r') => match lexAll n r' with
      | none => none
      | some ts => some (t :: ts) := by
  conv => lhs; unfold lexAll
  rw [List.dropWhile_cons, if_neg (by simp [h])]
  rfl
/-- what is left, told from a place on -/
def LexIs (l : Str) (n j : Nat) (ts : List Tok) : Prop := lexS l = (lexAll n (l.drop j)).map (ts ++ ·)
theorem LexIs.space {l : Str} {n j : Nat} {ts : List Tok} (h : LexIs l n j ts) : LexIs l n (runTo spB l j) ts := by
  unfold LexIs at *
  rw [h, runTo_drop, lexAll_sp]
theorem LexIs.end_ {l : Str} {n j : Nat} {ts : List Tok} (h : LexIs l n j ts) (hj : l.length ≤ j) : lexS l = some ts := by
  unfold LexIs at h
  rw [h, List.drop_of_length_le hj, lexAll_end]
  simp
theorem LexIs.bad {l : Str} {n j : Nat} {ts : List Tok} {x : UInt8} (h : LexIs l (n + 1) j ts) (hx : l[j]? = some x) (hs : spB x = false) (ho : oneL x (l.drop (j + 1)) = none) : lexS l = none := by
  unfold LexIs at h
  rw [h, drop_cons hx, lexAll_cons hs, ho]
  rfl
theorem LexIs.step {l : Str} {n j k : Nat} {ts : List Tok} {x : UInt8} {t : Tok} (h : LexIs l (n + 1) j ts) (hx : l[j]? = some x) (hs : spB x = false) (ho : oneL x (l.drop (j + 1)) = some (t, l.drop k)) : LexIs l n k (ts ++ [t]) := by
  unfold LexIs at *
  rw [h, drop_cons hx, lexAll_cons hs, ho]
  cases hq : lexAll n (l.drop k) with
  | none => simp [hq]
  | some us => simp [hq]
/-! a token takes a byte at least -/
theorem textL_len : ∀ (n : Nat) (l acc b r : Str), l.length ≤ n → textL l acc = some (b, r) → r.length ≤ l.length
  | 0, l, acc, b, r, hn, h => by
    have : l = [] := List.eq_nil_of_length_eq_zero (by omega)
    subst this; simp [textL] at h
  | n + 1, [], acc, b, r, hn, h => by simp [textL] at h
  | n + 1, x :: l, acc, b, r, hn, h => by
    unfold textL at h
    split at h
    · split at h
      · split at h
        · simp at h; obtain ⟨_, rfl⟩ := h; simp
        · cases h
      · split at h
        · have := textL_len n _ _ _ _ (by simp at hn ⊢; omega) h
          simp at *; omega
        · split at h
          · simp at h; obtain ⟨_, rfl⟩ := h; simp
          · cases h
    · have := textL_len n _ _ _ _ (by simp at hn; omega) h
      simp at *; omega
theorem dropWhile_len (p : UInt8 → Bool) (l : Str) : (l.dropWhile p).length ≤ l.length := (List.dropWhile_sublist p).length_le
theorem oneL_len {x : UInt8} {r r' : Str} {t : Tok} (h : oneL x r = some (t, r')) : r'.length ≤ r.length := by
  unfold oneL at h
  split at h
  · rename_i hx
    have hw : wordB x = true := by unfold wordB; rw [hx]; rfl
    have hd : (x :: r).dropWhile wordB = r.dropWhile wordB := by rw [List.dropWhile_cons, if_pos hw]
    have := dropWhile_len wordB r
    unfold wordL at h
    rw [hd] at h
    split at h
    · simp at h; obtain ⟨_, rfl⟩ := h; exact this
    · split at h
      · simp at h; obtain ⟨_, rfl⟩ := h; exact this
      · cases h
  · split at h
    · rename_i hx
      have hd : (x :: r).dropWhile digB = r.dropWhile digB := by rw [List.dropWhile_cons, if_pos hx]
      have := dropWhile_len digB r
      unfold numberL at h
      rw [hd] at h
      split at h
      · cases h
      · split at h
        · cases h
        · simp at h; obtain ⟨_, rfl⟩ := h; exact this
    · split at h
      · unfold quoteL at h
        split at h
        · cases h
        · rename_i b r2 hq
          simp at h
          obtain ⟨_, rfl⟩ := h
          exact textL_len _ _ _ _ _ (Nat.le_refl _) hq
      · cases r with
        | nil =>
          simp only [signL] at h
          split at h
          · simp at h; obtain ⟨_, rfl⟩ := h; simp
          · cases h
        | cons y r =>
          simp only [signL] at h
          split at h
          · simp at h; obtain ⟨_, rfl⟩ := h; simp
          · split at h
            · simp at h; obtain ⟨_, rfl⟩ := h; simp
            · cases h
end Go.Proofs.YtnbckfkdmkbopaaGreatDoor
