/-
  The scanner's words and numbers. No condition beyond each lemma's own.
-/
import Derived.Test.YtnbckfkdmkbopaaGreatDoorTG30
set_option autoImplicit false
namespace Go.Proofs.YtnbckfkdmkbopaaGreatDoor
open Go Go.RowKit

theorem chg_of {w w' : World} (h : Below w.heap.size w w') : Chg NoB w w' := ⟨h.1, h.2, h.3, h.size, fun k hk _ => h.block k hk⟩
theorem Chg.of_no {w w' : World} {F : Nat → Prop} (h : Chg NoB w w') : Chg F w w' := h.mono fun _ h => h.elim
abbrev tok0 : Value := .agg #[.int .i64 0, .string ⟨#[]⟩, .int .i64 0]
abbrev Tok.valL (t : Tok) : Value := .agg #[.int .i64 t.kind, sv t.text, .int .i64 t.num]
/-- what taking a token comes to -/
def TokOut (r : Option (Tok × Str)) (l : Str) (c : Nat) (w : World) (e : Ending) (w' : World) : Prop :=
  Chg (OneB c) w w' ∧ match r with
  | none => ∃ q : Int, q ≠ 0 ∧ e = .returned (.tuple #[tok0, .int .i64 q])
  | some (t, rest) => e = .returned (.tuple #[t.valL, .int .i64 0]) ∧ ∃ k', k' ≤ l.length ∧ l.drop k' = rest ∧ ScanAt w' c l k'
theorem TokOut.no {r : Option (Tok × Str)} {l : Str} {c : Nat} {w w' : World} {q : Int} (hr : r = none) (h : Chg (OneB c) w w') (hq : q ≠ 0) : TokOut r l c w (.returned (.tuple #[tok0, .int .i64 q])) w' := by
  subst hr; exact ⟨h, q, hq, rfl⟩
theorem TokOut.yes {r : Option (Tok × Str)} {l : Str} {c : Nat} {w w' : World} {t : Tok} {rest : Str} {k' : Nat} (hr : r = some (t, rest)) (h : Chg (OneB c) w w') (hk : k' ≤ l.length) (hd : l.drop k' = rest) (hs : ScanAt w' c l k') : TokOut r l c w (.returned (.tuple #[t.valL, .int .i64 0])) w' := by
  subst hr; exact ⟨h, rfl, k', hk, hd, hs⟩
theorem word_lt : ∀ c : Fin 256, wordB (UInt8.ofNat c.val) = true → c.val < 128 := by decide +kernel
theorem word_lt' {c : UInt8} (h : wordB c = true) : c.toNat < 128 := word_lt ⟨c.toNat, c.toNat_lt⟩ (by simpa using h)
theorem takeWhile_all (p : UInt8 → Bool) (l : Str) : ∀ c ∈ l.takeWhile p, p c = true := fun c h => by
  have := List.all_takeWhile (l := l) (p := p)
  rw [List.all_eq_true] at this
  exact this c h
theorem hasSub_index (s sub : Str) : Lib.contains s sub = hasSub s sub := by
  unfold Lib.contains
  induction s with
  | nil => unfold Lib.index hasSub; cases sub <;> simp
  | cons b l ih =>
    unfold Lib.index hasSub
    cases h : sub.isPrefixOf (b :: l) with
    | true => simp
    | false =>
      simp only [Bool.false_eq_true, if_false, Bool.false_or]
      rw [← ih]
      have := Lib.index_ge l sub
      by_cases h1 : Lib.index l sub = -1
      · simp [h1]
      · have h2 : (Lib.index l sub == -1) = false := by simpa using h1
        rw [h2]
        simp only [Bool.false_eq_true, if_false, decide_eq_decide]
        omega
theorem contains_at (s sub : ByteArray) (w : World) (hg : Glob w) (hs : s.size < 4294967281) :
    Calls Tryz.prog 143 #[.string s, .string sub] w fun e w' => e = .returned (.bool (hasSub s.data.toList sub.data.toList)) ∧ w = w' := by
  obtain ⟨m, hm⟩ := hg.mx
  refine (strings_Contains s sub m w hs hm).mono ?_
  rintro e w' ⟨rfl, rfl⟩
  exact ⟨by rw [hasSub_index], rfl⟩
theorem tok_set {w : World} {b : Nat} {x y z : Value} (h : w.heap[b]? = some (.cells #[x, y, z] 133 (0, 0))) (a0 a1 a2 : Value) :
    (((w.setCell ⟨b, 0, none⟩ a0).setCell ⟨b, 1, none⟩ a1).setCell ⟨b, 2, none⟩ a2).heap[b]? = some (.cells #[a0, a1, a2] 133 (0, 0)) := by
  have h0 := hset_eq (i := 0) (v := a0) h
  have h1 := hset_eq (i := 1) (v := a1) h0
  exact hset_eq (i := 2) (v := a2) h1
theorem tok_ret {fn : Func} {Q : Ending → World → Prop} {tmps : Array Value} {w : World} {b : Nat} {a0 a1 a2 : Value} {q : Int} (hres : fn.results = #[.cell 2 133, .tmp 3]) (h2 : tmps.getD 2 undef = .pointer (some ⟨b, 0, none⟩)) (h3 : tmps.getD 3 undef = .int .i64 q)
    (hb : w.heap[b]? = some (.cells #[a0, a1, a2] 133 (0, 0))) (hQ : Q (.returned (.tuple #[.agg #[a0, a1, a2], .int .i64 q])) w) : bodyPost Tryz.prog fn Q Exit.ret ⟨tmps, []⟩ w := by
  refine bodyPost_ret (v := .tuple #[.agg #[a0, a1, a2], .int .i64 q]) ?_ rfl hQ
  have := results_big2 (P := Tryz.prog) hres tmps w b [a0, a1, a2] _ h2 (range_block hb) Tryz.underlying133 rfl (by kernel_rfl)
  rw [h3] at this
  exact this
theorem run_cat (a b : Str) (ha : a.length ≤ 1000000) (hb : b.length ≤ 1000000) (w : World) : (binOp .add 9 (sv a) (sv b)).run Tryz.prog w = .ok (sv (a ++ b)) w := by
  simp [binOp, run_string_add_lists w a b (by omega) (by omega)]
theorem upper_any (u : Str) (w : World) (h : ∀ b ∈ u, b.toNat < 128) (hl : u.length ≤ 2048) : Calls Tryz.prog 60 #[sv u] w fun e w' => e = .returned (sv (u.map Lib.upperB)) ∧ Chg NoB w w' := by
  refine (strings_ToUpper_ascii _ w (by show Array.size _ ≤ _; simp; omega) (fun j b hb => h b (List.mem_of_getElem? (by simpa using hb)))).mono ?_
  rintro e w' ⟨rfl, hw⟩
  exact ⟨rfl, chg_of hw⟩
theorem lower_any (u : Str) (w : World) (h : ∀ b ∈ u, b.toNat < 128) (hl : u.length ≤ 2048) : Calls Tryz.prog 144 #[sv u] w fun e w' => e = .returned (sv (u.map Lib.lowerB)) ∧ Chg NoB w w' := by
  refine (strings_ToLower_ascii _ w (by show Array.size _ ≤ _; simp; omega) (fun j b hb => h b (List.mem_of_getElem? (by simpa using hb)))).mono ?_
  rintro e w' ⟨rfl, hw⟩
  exact ⟨rfl, chg_of hw⟩
theorem kw_size : (ByteArray.mk kw.toArray).size < 4294967281 := by decide +kernel
theorem kw_any (u : Str) {b : Bool} (hb : isKw u = b) (w : World) (hg : Glob w) : Calls Tryz.prog 143 #[.string ⟨kw.toArray⟩, sv (32 :: (u ++ [32]))] w fun e w' => e = .returned (.bool b) ∧ w = w' := by
  refine (contains_at _ _ w hg kw_size).mono ?_
  rintro e w' ⟨rfl, rfl⟩
  rw [← hb]
  exact ⟨rfl, rfl⟩
set_option maxRecDepth 100000 in
set_option maxHeartbeats 1000000 in
theorem word_any (l : Str) (c k : Nat) (w : World) (hk : k ≤ l.length) (hl : l.length ≤ 2048) (hc : ScanAt w c l k) (hg : Glob w) (hc10 : 10 ≤ c) :
    Calls Tryz.prog 97 #[.pointer (some ⟨c, 0, none⟩)] w (TokOut (wordL (l.drop k)) l c w) := by
  obtain ⟨u, hu⟩ : ∃ u, (l.drop k).takeWhile wordB = u := ⟨_, rfl⟩
  have hcl := lt_of_heap hc
  have HC : Hid (ScanAt (w.alloc (.cells #[.int .i64 0, .string ⟨#[]⟩, .int .i64 0] 133)) c l k) := Lib.hid ((hal_old hcl).trans hc)
  have HA : Hid (∀ b ∈ u, b.toNat < 128) := Lib.hid fun b h => word_lt' (takeWhile_all wordB (l.drop k) _ (by rw [hu]; exact h))
  have hw : u.length ≤ 2048 := by
    have := (List.takeWhile_sublist (l := l.drop k) wordB).length_le
    rw [hu] at this
    simp at this
    omega
  have HU := Lib.hid hu
  have HD := Lib.hid (runTo_drop wordB l k)
  have HE := Lib.hid ((runTo_le (p := wordB) hk).2)
  have h1 := run_cat [32] (u.map Lib.upperB) (by simp) (by simp; omega)
  have h2 := run_cat (32 :: (u.map Lib.upperB)) [32] (by simp; omega) (by simp)
  have HG := Lib.hid hg
  clear hc hg hu
  cases hkw : isKw (u.map Lib.upperB) with
  | true =>
    have HK := Lib.hid hkw
    clear hkw
    go_enter Tryz.func97, Tryz.ntmps97
    go_wp2_with fail
    refine (run_wordB l c k _ hk hl HC.out).mono ?_
    rw [HU.out]
    rintro e w1 ⟨rfl, H1⟩
    go_wp2_with fail
    refine (upper_any u _ HA.out hw).mono ?_
    rintro e w2 ⟨rfl, H2⟩
    have X2 : Hid (Chg (OneB c) w w2) := Lib.hid ((((Chg.refl _ _).alloc _).trans H1.out.2 (fun _ h => .inl h)).trans H2.of_no (fun _ h => .inl h))
    have B2 : Hid (w2.heap[w.heap.size]? = some (.cells #[.int .i64 0, .string ⟨#[]⟩, .int .i64 0] 133 (0, 0))) := Lib.hid (H2.heap (H1.out.2.heap hal_new (by omega)) (fun h => h))
    have S2 : Hid (ScanAt w2 c l (runTo wordB l k)) := Lib.hid (H2.heap H1.out.1 (fun h => h))
    have G2 : Hid (Glob w2) := Lib.hid (X2.out.glob hc10 HG.out)
    clear H1 H2
    go_wp2_with fail
    refine (kw_any _ HK.out _ G2.out).mono ?_
    rintro e w3 ⟨rfl, rfl⟩
    have b0 : w2.cell? ⟨w.heap.size, 0, none⟩ = some (.int .i64 0) := cell_of_row w2 _ 0 _ _ _ B2.out
    have b1 : w2.cell? ⟨w.heap.size, 1, none⟩ = some (.string ⟨#[]⟩) := cell_of_row w2 _ 1 _ _ _ B2.out
    have b2 : w2.cell? ⟨w.heap.size, 2, none⟩ = some (.int .i64 0) := cell_of_row w2 _ 2 _ _ _ B2.out
    have fz : ∀ o, w2.frozen? ⟨w.heap.size, o, none⟩ = false := fun o => by simp [World.frozen?, B2.out]
    go_wp2
    refine tok_ret rfl rfl rfl (tok_set B2.out _ _ _) (TokOut.yes (r := wordL (l.drop k)) (t := ⟨1, u.map Lib.upperB, 0⟩) (rest := (l.drop k).dropWhile wordB) (by unfold wordL; rw [HU.out, if_pos HK.out]) (((X2.out.setCell (.inr (Nat.le_refl _)) _).setCell (.inr (Nat.le_refl _)) _).setCell (.inr (Nat.le_refl _)) _) HE.out HD.out ?_)
    exact (hset_ne (by omega)).trans ((hset_ne (by omega)).trans ((hset_ne (by omega)).trans S2.out))
  | false =>
    have HK := Lib.hid hkw
    clear hkw
    by_cases h32 : u.length ≤ 32
    · have h32' : ¬ (32 : Int) < u.length := by omega
      have H32 := Lib.hid h32
      clear h32
      go_enter Tryz.func97, Tryz.ntmps97
      go_wp2_with fail
      refine (run_wordB l c k _ hk hl HC.out).mono ?_
      rw [HU.out]
      rintro e w1 ⟨rfl, H1⟩
      go_wp2_with fail
      refine (upper_any u _ HA.out hw).mono ?_
      rintro e w2 ⟨rfl, H2⟩
      have X2 : Hid (Chg (OneB c) w w2) := Lib.hid ((((Chg.refl _ _).alloc _).trans H1.out.2 (fun _ h => .inl h)).trans H2.of_no (fun _ h => .inl h))
      have B2 : Hid (w2.heap[w.heap.size]? = some (.cells #[.int .i64 0, .string ⟨#[]⟩, .int .i64 0] 133 (0, 0))) := Lib.hid (H2.heap (H1.out.2.heap hal_new (by omega)) (fun h => h))
      have S2 : Hid (ScanAt w2 c l (runTo wordB l k)) := Lib.hid (H2.heap H1.out.1 (fun h => h))
      have G2 : Hid (Glob w2) := Lib.hid (X2.out.glob hc10 HG.out)
      clear H1 H2
      go_wp2_with fail
      refine (kw_any _ HK.out _ G2.out).mono ?_
      rintro e w3 ⟨rfl, rfl⟩
      have b0 : w2.cell? ⟨w.heap.size, 0, none⟩ = some (.int .i64 0) := cell_of_row w2 _ 0 _ _ _ B2.out
      have b1 : w2.cell? ⟨w.heap.size, 1, none⟩ = some (.string ⟨#[]⟩) := cell_of_row w2 _ 1 _ _ _ B2.out
      have b2 : w2.cell? ⟨w.heap.size, 2, none⟩ = some (.int .i64 0) := cell_of_row w2 _ 2 _ _ _ B2.out
      have fz : ∀ o, w2.frozen? ⟨w.heap.size, o, none⟩ = false := fun o => by simp [World.frozen?, B2.out]
      go_wp2_with fail
      refine (lower_any u _ HA.out hw).mono ?_
      rintro e w3 ⟨rfl, H3⟩
      have X3 : Hid (Chg (OneB c) w w3) := Lib.hid (X2.out.trans H3.of_no (fun _ h => .inl h))
      have B3 : Hid (w3.heap[w.heap.size]? = some (.cells #[.int .i64 0, .string ⟨#[]⟩, .int .i64 0] 133 (0, 0))) := Lib.hid (H3.heap B2.out (fun h => h))
      have S3 : Hid (ScanAt w3 c l (runTo wordB l k)) := Lib.hid (H3.heap S2.out (fun h => h))
      clear b0 b1 b2 fz
      have b0 : w3.cell? ⟨w.heap.size, 0, none⟩ = some (.int .i64 0) := cell_of_row w3 _ 0 _ _ _ B3.out
      have b1 : w3.cell? ⟨w.heap.size, 1, none⟩ = some (.string ⟨#[]⟩) := cell_of_row w3 _ 1 _ _ _ B3.out
      have b2 : w3.cell? ⟨w.heap.size, 2, none⟩ = some (.int .i64 0) := cell_of_row w3 _ 2 _ _ _ B3.out
      have fz : ∀ o, w3.frozen? ⟨w.heap.size, o, none⟩ = false := fun o => by simp [World.frozen?, B3.out]
      go_wp2
      refine tok_ret rfl rfl rfl (tok_set B3.out _ _ _) (TokOut.yes (r := wordL (l.drop k)) (t := ⟨2, u.map Lib.lowerB, 0⟩) (rest := (l.drop k).dropWhile wordB) (by unfold wordL; rw [HU.out, HK.out, if_neg (by simp), if_pos H32.out]) (((X3.out.setCell (.inr (Nat.le_refl _)) _).setCell (.inr (Nat.le_refl _)) _).setCell (.inr (Nat.le_refl _)) _) HE.out HD.out ?_)
      exact (hset_ne (by omega)).trans ((hset_ne (by omega)).trans ((hset_ne (by omega)).trans S3.out))
    · have h32' : (32 : Int) < u.length := by omega
      have H32 := Lib.hid h32
      clear h32
      go_enter Tryz.func97, Tryz.ntmps97
      go_wp2_with fail
      refine (run_wordB l c k _ hk hl HC.out).mono ?_
      rw [HU.out]
      rintro e w1 ⟨rfl, H1⟩
      go_wp2_with fail
      refine (upper_any u _ HA.out hw).mono ?_
      rintro e w2 ⟨rfl, H2⟩
      have X2 : Hid (Chg (OneB c) w w2) := Lib.hid ((((Chg.refl _ _).alloc _).trans H1.out.2 (fun _ h => .inl h)).trans H2.of_no (fun _ h => .inl h))
      have B2 : Hid (w2.heap[w.heap.size]? = some (.cells #[.int .i64 0, .string ⟨#[]⟩, .int .i64 0] 133 (0, 0))) := Lib.hid (H2.heap (H1.out.2.heap hal_new (by omega)) (fun h => h))
      have S2 : Hid (ScanAt w2 c l (runTo wordB l k)) := Lib.hid (H2.heap H1.out.1 (fun h => h))
      have G2 : Hid (Glob w2) := Lib.hid (X2.out.glob hc10 HG.out)
      clear H1 H2
      go_wp2_with fail
      refine (kw_any _ HK.out _ G2.out).mono ?_
      rintro e w3 ⟨rfl, rfl⟩
      have b0 : w2.cell? ⟨w.heap.size, 0, none⟩ = some (.int .i64 0) := cell_of_row w2 _ 0 _ _ _ B2.out
      have b1 : w2.cell? ⟨w.heap.size, 1, none⟩ = some (.string ⟨#[]⟩) := cell_of_row w2 _ 1 _ _ _ B2.out
      have b2 : w2.cell? ⟨w.heap.size, 2, none⟩ = some (.int .i64 0) := cell_of_row w2 _ 2 _ _ _ B2.out
      have fz : ∀ o, w2.frozen? ⟨w.heap.size, o, none⟩ = false := fun o => by simp [World.frozen?, B2.out]
      go_wp2
      refine tok_ret rfl rfl rfl (tok_set B2.out _ _ _) (TokOut.no (r := wordL (l.drop k)) (by unfold wordL; rw [HU.out, HK.out, if_neg (by simp), if_neg H32.out]) (((X2.out.setCell (.inr (Nat.le_refl _)) _).setCell (.inr (Nat.le_refl _)) _).setCell (.inr (Nat.le_refl _)) _) (by decide))
end Go.Proofs.YtnbckfkdmkbopaaGreatDoor
