/-
  The scanner's words and numbers. No condition beyond each lemma's own.
  The scanner's numbers. No condition beyond each lemma's own.
-/
import Derived.Test.YtnbckfkdmkbopaaGreatDoorTH29
import Derived.Laws.IdiomStrings
set_option autoImplicit false
namespace Go.Proofs.YtnbckfkdmkbopaaGreatDoor
open Go Go.RowKit

theorem chg_of {w w' : World} (h : Below w.heap.size w w') : Chg NoB w w' := ⟨h.1, h.2, h.3, h.size, fun k hk _ => h.block k hk⟩
theorem Chg.of_no {w w' : World} {F : Nat → Prop} (h : Chg NoB w w') : Chg F w w' := h.mono fun _ h => h.elim
abbrev tok0 : Value := .agg #[.int .i64 0, .string ⟨#[]⟩, .int .i64 0]
abbrev Tok.valL (t : Tok) : Value := .agg #[.int .i64 t.kind, sv t.text, .int .i64 t.num]
/-- what taking a token comes to -/
def TokOut (r : Option (Tok × Str)) (l : Str) (c : Nat) (w : World) (e : Ending) (w' : World) : Prop :=
  Chg (OneB c) w w' ∧ match r with
  | none => ∃ q : Int, q ≠ 0 ∧ e = .returned (.tuple #[tok0, .int .i64 q])
  | some (t, rest) => e = .returned (.tuple #[t.valL, .int .i64 0]) ∧ ∃ k', k' ≤ l.length ∧ l.drop k' = rest ∧ ScanAt w' c l k'
theorem TokOut.no {r : Option (Tok × Str)} {l : Str} {c : Nat} {w w' : World} {q : Int} (hr : r = none) (h : Chg (OneB c) w w') (hq : q ≠ 0) : TokOut r l c w (.returned (.tuple #[tok0, .int .i64 q])) w' := by
  subst hr; exact ⟨h, q, hq, rfl⟩
theorem TokOut.yes {r : Option (Tok × Str)} {l : Str} {c : Nat} {w w' : World} {t : Tok} {rest : Str} {k' : Nat} (hr : r = some (t, rest)) (h : Chg (OneB c) w w') (hk : k' ≤ l.length) (hd : l.drop k' = rest) (hs : ScanAt w' c l k') : TokOut r l c w (.returned (.tuple #[t.valL, .int .i64 0])) w' := by
  subst hr; exact ⟨h, rfl, k', hk, hd, hs⟩
theorem word_lt : ∀ c : Fin 256, wordB (UInt8.ofNat c.val) = true → c.val < 128 := by decide +kernel
theorem word_lt' {c : UInt8} (h : wordB c = true) : c.toNat < 128 := word_lt ⟨c.toNat, c.toNat_lt⟩ (by simpa using h)
theorem takeWhile_all (p : UInt8 → Bool) (l : Str) : ∀ c ∈ l.takeWhile p, p c = true := fun c h => by
  have := List.all_takeWhile (l := l) (p := p)
  rw [List.all_eq_true] at this
  exact this c h
theorem hasSub_index (s sub : Str) : Lib.contains s sub = hasSub s sub := by
  unfold Lib.contains
  induction s with
  | nil => unfold Lib.index hasSub; cases sub <;> simp
  | cons b l ih =>
    unfold Lib.index hasSub
    cases h : sub.isPrefixOf (b :: l) with
    | true => simp
    | false =>
      simp only [Bool.false_eq_true, if_false, Bool.false_or]
      rw [← ih]
      have := Lib.index_ge l sub
      by_cases h1 : Lib.index l sub = -1
      · simp [h1]
      · have h2 : (Lib.index l sub == -1) = false := by simpa using h1
        rw [h2]
        simp only [Bool.false_eq_true, if_false, decide_eq_decide]
        omega
theorem contains_at (s sub : ByteArray) (w : World) (hg : Glob w) (hs : s.size < 4294967281) :
    Calls Tryz.prog 143 #[.string s, .string sub] w fun e w' => e = .returned (.bool (hasSub s.data.toList sub.data.toList)) ∧ w = w' := by
  obtain ⟨m, hm⟩ := hg.mx
  refine (strings_Contains s sub m w hs hm).mono ?_
  rintro e w' ⟨rfl, rfl⟩
  exact ⟨by rw [hasSub_index], rfl⟩
theorem tok_set {w : World} {b : Nat} {x y z : Value} (h : w.heap[b]? = some (.cells #[x, y, z] 133 (0, 0))) (a0 a1 a2 : Value) :
    (((w.setCell ⟨b, 0, none⟩ a0).setCell ⟨b, 1, none⟩ a1).setCell ⟨b, 2, none⟩ a2).heap[b]? = some (.cells #[a0, a1, a2] 133 (0, 0)) := by
  have h0 := hset_eq (i := 0) (v := a0) h
  have h1 := hset_eq (i := 1) (v := a1) h0
  exact hset_eq (i := 2) (v := a2) h1
theorem tok_ret {fn : Func} {Q : Ending → World → Prop} {tmps : Array Value} {w : World} {b : Nat} {a0 a1 a2 : Value} {q : Int} (hres : fn.results = #[.cell 2 133, .tmp 3]) (h2 : tmps.getD 2 undef = .pointer (some ⟨b, 0, none⟩)) (h3 : tmps.getD 3 undef = .int .i64 q)
    (hb : w.heap[b]? = some (.cells #[a0, a1, a2] 133 (0, 0))) (hQ : Q (.returned (.tuple #[.agg #[a0, a1, a2], .int .i64 q])) w) : bodyPost Tryz.prog fn Q Exit.ret ⟨tmps, []⟩ w := by
  refine bodyPost_ret (v := .tuple #[.agg #[a0, a1, a2], .int .i64 q]) ?_ rfl hQ
  have := results_big2 (P := Tryz.prog) hres tmps w b [a0, a1, a2] _ h2 (range_block hb) Tryz.underlying133 rfl (by kernel_rfl)
  rw [h3] at this
  exact this
theorem run_cat (a b : Str) (ha : a.length ≤ 1000000) (hb : b.length ≤ 1000000) (w : World) : (binOp .add 9 (sv a) (sv b)).run Tryz.prog w = .ok (sv (a ++ b)) w := by
  simp [binOp, run_string_add_lists w a b (by omega) (by omega)]
theorem upper_any (u : Str) (w : World) (h : ∀ b ∈ u, b.toNat < 128) (hl : u.length ≤ 2048) : Calls Tryz.prog 60 #[sv u] w fun e w' => e = .returned (sv (u.map Lib.upperB)) ∧ Chg NoB w w' := by
  refine (strings_ToUpper_ascii _ w (by show Array.size _ ≤ _; simp; omega) (fun j b hb => h b (List.mem_of_getElem? (by simpa using hb)))).mono ?_
  rintro e w' ⟨rfl, hw⟩
  exact ⟨rfl, chg_of hw⟩
theorem lower_any (u : Str) (w : World) (h : ∀ b ∈ u, b.toNat < 128) (hl : u.length ≤ 2048) : Calls Tryz.prog 144 #[sv u] w fun e w' => e = .returned (sv (u.map Lib.lowerB)) ∧ Chg NoB w w' := by
  refine (strings_ToLower_ascii _ w (by show Array.size _ ≤ _; simp; omega) (fun j b hb => h b (List.mem_of_getElem? (by simpa using hb)))).mono ?_
  rintro e w' ⟨rfl, hw⟩
  exact ⟨rfl, chg_of hw⟩
theorem kw_size : (ByteArray.mk kw.toArray).size < 4294967281 := by decide +kernel
theorem kw_any (u : Str) {b : Bool} (hb : isKw u = b) (w : World) (hg : Glob w) : Calls Tryz.prog 143 #[.string ⟨kw.toArray⟩, sv (32 :: (u ++ [32]))] w fun e w' => e = .returned (.bool b) ∧ w = w' := by
  refine (contains_at _ _ w hg kw_size).mono ?_
  rintro e w' ⟨rfl, rfl⟩
  rw [← hb]
  exact ⟨rfl, rfl⟩
set_option maxRecDepth 100000 in
set_option maxHeartbeats 1000000 in
theorem word_any (l : Str) (c k : Nat) (w : World) (hk : k ≤ l.length) (hl : l.length ≤ 2048) (hc : ScanAt w c l k) (hg : Glob w) (hc10 : 10 ≤ c) :
    Calls Tryz.prog 97 #[.pointer (some ⟨c, 0, none⟩)] w (TokOut (wordL (l.drop k)) l c w) := by
  obtain ⟨u, hu⟩ : ∃ u, (l.drop k).takeWhile wordB = u := ⟨_, rfl⟩
  have hcl := lt_of_heap hc
  have HC : Hid (ScanAt (w.alloc (.cells #[.int .i64 0, .string ⟨#[]⟩, .int .i64 0] 133)) c l k) := Lib.hid ((hal_old hcl).trans hc)
  have HA : Hid (∀ b ∈ u, b.toNat < 128) := Lib.hid fun b h => word_lt' (takeWhile_all wordB (l.drop k) _ (by rw [hu]; exact h))
  have hw : u.length ≤ 2048 := by
    have := (List.takeWhile_sublist (l := l.drop k) wordB).length_le
    rw [hu] at this
    simp at this
    omega
  have HU := Lib.hid hu
  have HD := Lib.hid (runTo_drop wordB l k)
  have HE := Lib.hid ((runTo_le (p := wordB) hk).2)
  have h1 := run_cat [32] (u.map Lib.upperB) (by simp) (by simp; omega)
  have h2 := run_cat (32 :: (u.map Lib.upperB)) [32] (by simp; omega) (by simp)
  have HG := Lib.hid hg
  clear hc hg hu
  cases hkw : isKw (u.map Lib.upperB) with
  | true =>
    have HK := Lib.hid hkw
    clear hkw
    go_enter Tryz.func97, Tryz.ntmps97
    go_wp2_with fail
    refine (run_wordB l c k _ hk hl HC.out).mono ?_
    rw [HU.out]
    rintro e w1 ⟨rfl, H1⟩
    go_wp2_with fail
    refine (upper_any u _ HA.out hw).mono ?_
    rintro e w2 ⟨rfl, H2⟩
    have X2 : Hid (Chg (OneB c) w w2) := Lib.hid ((((Chg.refl _ _).alloc _).trans H1.out.2 (fun _ h => .inl h)).trans H2.of_no (fun _ h => .inl h))
    have B2 : Hid (w2.heap[w.heap.size]? = some (.cells #[.int .i64 0, .string ⟨#[]⟩, .int .i64 0] 133 (0, 0))) := Lib.hid (H2.heap (H1.out.2.heap hal_new (by omega)) (fun h => h))
    have S2 : Hid (ScanAt w2 c l (runTo wordB l k)) := Lib.hid (H2.heap H1.out.1 (fun h => h))
    have G2 : Hid (Glob w2) := Lib.hid (X2.out.glob hc10 HG.out)
    clear H1 H2
    go_wp2_with fail
    refine (kw_any _ HK.out _ G2.out).mono ?_
    rintro e w3 ⟨rfl, rfl⟩
    have b0 : w2.cell? ⟨w.heap.size, 0, none⟩ = some (.int .i64 0) := cell_of_row w2 _ 0 _ _ _ B2.out
    have b1 : w2.cell? ⟨w.heap.size, 1, none⟩ = some (.string ⟨#[]⟩) := cell_of_row w2 _ 1 _ _ _ B2.out
    have b2 : w2.cell? ⟨w.heap.size, 2, none⟩ = some (.int .i64 0) := cell_of_row w2 _ 2 _ _ _ B2.out
    have fz : ∀ o, w2.frozen? ⟨w.heap.size, o, none⟩ = false := fun o => by simp [World.frozen?, B2.out]
    go_wp2
    refine tok_ret rfl rfl rfl (tok_set B2.out _ _ _) (TokOut.yes (r := wordL (l.drop k)) (t := ⟨1, u.map Lib.upperB, 0⟩) (rest := (l.drop k).dropWhile wordB) (by unfold wordL; rw [HU.out, if_pos HK.out]) (((X2.out.setCell (.inr (Nat.le_refl _)) _).setCell (.inr (Nat.le_refl _)) _).setCell (.inr (Nat.le_refl _)) _) HE.out HD.out ?_)
    exact (hset_ne (by omega)).trans ((hset_ne (by omega)).trans ((hset_ne (by omega)).trans S2.out))
  | false =>
    have HK := Lib.hid hkw
    clear hkw
    by_cases h32 : u.length ≤ 32
    · have h32' : ¬ (32 : Int) < u.length := by omega
      have H32 := Lib.hid h32
      clear h32
      go_enter Tryz.func97, Tryz.ntmps97
      go_wp2_with fail
      refine (run_wordB l c k _ hk hl HC.out).mono ?_
      rw [HU.out]
      rintro e w1 ⟨rfl, H1⟩
      go_wp2_with fail
      refine (upper_any u _ HA.out hw).mono ?_
      rintro e w2 ⟨rfl, H2⟩
      have X2 : Hid (Chg (OneB c) w w2) := Lib.hid ((((Chg.refl _ _).alloc _).trans H1.out.2 (fun _ h => .inl h)).trans H2.of_no (fun _ h => .inl h))
      have B2 : Hid (w2.heap[w.heap.size]? = some (.cells #[.int .i64 0, .string ⟨#[]⟩, .int .i64 0] 133 (0, 0))) := Lib.hid (H2.heap (H1.out.2.heap hal_new (by omega)) (fun h => h))
      have S2 : Hid (ScanAt w2 c l (runTo wordB l k)) := Lib.hid (H2.heap H1.out.1 (fun h => h))
      have G2 : Hid (Glob w2) := Lib.hid (X2.out.glob hc10 HG.out)
      clear H1 H2
      go_wp2_with fail
      refine (kw_any _ HK.out _ G2.out).mono ?_
      rintro e w3 ⟨rfl, rfl⟩
      have b0 : w2.cell? ⟨w.heap.size, 0, none⟩ = some (.int .i64 0) := cell_of_row w2 _ 0 _ _ _ B2.out
      have b1 : w2.cell? ⟨w.heap.size, 1, none⟩ = some (.string ⟨#[]⟩) := cell_of_row w2 _ 1 _ _ _ B2.out
      have b2 : w2.cell? ⟨w.heap.size, 2, none⟩ = some (.int .i64 0) := cell_of_row w2 _ 2 _ _ _ B2.out
      have fz : ∀ o, w2.frozen? ⟨w.heap.size, o, none⟩ = false := fun o => by simp [World.frozen?, B2.out]
      go_wp2_with fail
      refine (lower_any u _ HA.out hw).mono ?_
      rintro e w3 ⟨rfl, H3⟩
      have X3 : Hid (Chg (OneB c) w w3) := Lib.hid (X2.out.trans H3.of_no (fun _ h => .inl h))
      have B3 : Hid (w3.heap[w.heap.size]? = some (.cells #[.int .i64 0, .string ⟨#[]⟩, .int .i64 0] 133 (0, 0))) := Lib.hid (H3.heap B2.out (fun h => h))
      have S3 : Hid (ScanAt w3 c l (runTo wordB l k)) := Lib.hid (H3.heap S2.out (fun h => h))
      clear b0 b1 b2 fz
      have b0 : w3.cell? ⟨w.heap.size, 0, none⟩ = some (.int .i64 0) := cell_of_row w3 _ 0 _ _ _ B3.out
      have b1 : w3.cell? ⟨w.heap.size, 1, none⟩ = some (.string ⟨#[]⟩) := cell_of_row w3 _ 1 _ _ _ B3.out
      have b2 : w3.cell? ⟨w.heap.size, 2, none⟩ = some (.int .i64 0) := cell_of_row w3 _ 2 _ _ _ B3.out
      have fz : ∀ o, w3.frozen? ⟨w.heap.size, o, none⟩ = false := fun o => by simp [World.frozen?, B3.out]
      go_wp2
      refine tok_ret rfl rfl rfl (tok_set B3.out _ _ _) (TokOut.yes (r := wordL (l.drop k)) (t := ⟨2, u.map Lib.lowerB, 0⟩) (rest := (l.drop k).dropWhile wordB) (by unfold wordL; rw [HU.out, HK.out, if_neg (by simp), if_pos H32.out]) (((X3.out.setCell (.inr (Nat.le_refl _)) _).setCell (.inr (Nat.le_refl _)) _).setCell (.inr (Nat.le_refl _)) _) HE.out HD.out ?_)
      exact (hset_ne (by omega)).trans ((hset_ne (by omega)).trans ((hset_ne (by omega)).trans S3.out))
    · have h32' : (32 : Int) < u.length := by omega
      have H32 := Lib.hid h32
      clear h32
      go_enter Tryz.func97, Tryz.ntmps97
      go_wp2_with fail
      refine (run_wordB l c k _ hk hl HC.out).mono ?_
      rw [HU.out]
      rintro e w1 ⟨rfl, H1⟩
      go_wp2_with fail
      refine (upper_any u _ HA.out hw).mono ?_
      rintro e w2 ⟨rfl, H2⟩
      have X2 : Hid (Chg (OneB c) w w2) := Lib.hid ((((Chg.refl _ _).alloc _).trans H1.out.2 (fun _ h => .inl h)).trans H2.of_no (fun _ h => .inl h))
      have B2 : Hid (w2.heap[w.heap.size]? = some (.cells #[.int .i64 0, .string ⟨#[]⟩, .int .i64 0] 133 (0, 0))) := Lib.hid (H2.heap (H1.out.2.heap hal_new (by omega)) (fun h => h))
      have S2 : Hid (ScanAt w2 c l (runTo wordB l k)) := Lib.hid (H2.heap H1.out.1 (fun h => h))
      have G2 : Hid (Glob w2) := Lib.hid (X2.out.glob hc10 HG.out)
      clear H1 H2
      go_wp2_with fail
      refine (kw_any _ HK.out _ G2.out).mono ?_
      rintro e w3 ⟨rfl, rfl⟩
      have b0 : w2.cell? ⟨w.heap.size, 0, none⟩ = some (.int .i64 0) := cell_of_row w2 _ 0 _ _ _ B2.out
      have b1 : w2.cell? ⟨w.heap.size, 1, none⟩ = some (.string ⟨#[]⟩) := cell_of_row w2 _ 1 _ _ _ B2.out
      have b2 : w2.cell? ⟨w.heap.size, 2, none⟩ = some (.int .i64 0) := cell_of_row w2 _ 2 _ _ _ B2.out
      have fz : ∀ o, w2.frozen? ⟨w.heap.size, o, none⟩ = false := fun o => by simp [World.frozen?, B2.out]
      go_wp2
      refine tok_ret rfl rfl rfl (tok_set B2.out _ _ _) (TokOut.no (r := wordL (l.drop k)) (by unfold wordL; rw [HU.out, HK.out, if_neg (by simp), if_neg H32.out]) (((X2.out.setCell (.inr (Nat.le_refl _)) _).setCell (.inr (Nat.le_refl _)) _).setCell (.inr (Nat.le_refl _)) _) (by decide))
end Go.Proofs.YtnbckfkdmkbopaaGreatDoor

set_option autoImplicit false
namespace Go.Proofs.YtnbckfkdmkbopaaGreatDoor
open Go Go.RowKit

theorem headLet_at {l : Str} {k : Nat} {x : UInt8} (h : l[k]? = some x) : headLet (l.drop k) = letB x := by
  obtain ⟨hk, rfl⟩ := List.getElem?_eq_some_iff.1 h
  rw [List.drop_eq_getElem_cons hk]; rfl
theorem headLet_end {l : Str} {k : Nat} (h : l.length ≤ k) : headLet (l.drop k) = false := by rw [List.drop_of_length_le h]; rfl
/-- a text's bytes, in new memory -/
theorem conv_bytes (u : Str) (w : World) : ∃ cap o, (convert 9 157 (sv u)).run Tryz.prog w = .ok (.slice (some ⟨w.heap.size, 0, none⟩) u.length cap) ((w.alloc o).drew) ∧
    ∀ (W : World), Chg NoB (w.alloc o).drew W → ∀ j b, u[j]? = some b → W.cell? ⟨w.heap.size, j, none⟩ = some (.int .u8 (b.toNat : Int)) := by
  have h := run_bytes_of_string (P := Tryz.prog) w 9 157 5 ⟨u.toArray⟩ Tryz.underlying9 Tryz.underlying157 Tryz.underlying5
  refine ⟨_, _, by rw [show (ByteArray.mk u.toArray).size = u.length from by show Array.size _ = _; simp] at h; exact h, fun W hW j b hj => ?_⟩
  have hb := hW.heap (hal_new (w := w)) (fun h => h)
  obtain ⟨hj', rfl⟩ := List.getElem?_eq_some_iff.1 hj
  have := bytesRow_at ⟨u.toArray⟩ (grownCap w u.length 0 5) j (by simpa using hj')
  have hc : W.cell? ⟨w.heap.size, j, none⟩ = (bytesRow ⟨u.toArray⟩ (grownCap w u.length 0 5))[j]? := cell_of_row W _ _ _ _ _ hb
  rw [hc, this]
  simp
abbrev big63 : Int := 9223372036854775807
/-- the digits so far: n, or too great -/
def NumIs (u : Str) (k : Nat) (a e : Value) : Prop :=
  (∃ n : Int, 0 ≤ n ∧ n ≤ big63 ∧ a = .int .i64 n ∧ e = .int .i64 0 ∧ numL (u.drop k) n = numL u 0) ∨ (e = .int .i64 35 ∧ numL u 0 = none ∧ ∃ n : Int, a = .int .i64 n)
theorem takeWhile_dig {u l : Str} (h : l.takeWhile digB = u) {k : Nat} {x : UInt8} (hx : u[k]? = some x) : digB x = true := takeWhile_all digB l x (by rw [h]; exact List.mem_of_getElem? hx)
theorem numL_step {u : Str} {k : Nat} {x : UInt8} (hx : u[k]? = some x) (n : Int) : numL (u.drop k) n = if (9223372036854775807 - ((x.toNat : Int) - 48)) / 10 < n then none else numL (u.drop (k + 1)) (10 * n + ((x.toNat : Int) - 48)) := by
  obtain ⟨hk, rfl⟩ := List.getElem?_eq_some_iff.1 hx
  rw [List.drop_eq_getElem_cons hk]; rfl
theorem dig_bd {x : UInt8} (h : digB x = true) : 48 ≤ (x.toNat : Int) ∧ (x.toNat : Int) ≤ 57 := by
  rw [digB_eq] at h
  simp at h
  omega
theorem numberL_let {l : Str} (h : headLet (l.dropWhile digB) = true) : numberL l = none := by
  unfold numberL
  cases numL (l.takeWhile digB) 0 with
  | none => rfl
  | some n => simp [h]
theorem numberL_big {l u : Str} (hu : l.takeWhile digB = u) (h : numL u 0 = none) : numberL l = none := by
  unfold numberL
  rw [hu, h]
theorem numberL_ok {l u : Str} {n : Int} (hu : l.takeWhile digB = u) (h : numL u 0 = some n) (hh : headLet (l.dropWhile digB) = false) : numberL l = some (⟨3, [], n⟩, l.dropWhile digB) := by
  unfold numberL
  rw [hu, h]
  simp [hh]
set_option maxRecDepth 100000 in
set_option maxHeartbeats 1000000 in
theorem number_any (l : Str) (c k : Nat) (w : World) (hk : k ≤ l.length) (hl : l.length ≤ 2048) (hc : ScanAt w c l k) :
    Calls Tryz.prog 99 #[.pointer (some ⟨c, 0, none⟩)] w (TokOut (numberL (l.drop k)) l c w) := by
  obtain ⟨u, hu⟩ : ∃ u, (l.drop k).takeWhile digB = u := ⟨_, rfl⟩
  have hcl := lt_of_heap hc
  have HC : Hid (ScanAt (w.alloc (.cells #[.int .i64 0, .string ⟨#[]⟩, .int .i64 0] 133)) c l k) := Lib.hid ((hal_old hcl).trans hc)
  have hul : u.length ≤ 2048 := by
    have := (List.takeWhile_sublist (l := l.drop k) digB).length_le
    rw [hu] at this
    simp at this
    omega
  have HU := Lib.hid hu
  have HD := Lib.hid (runTo_drop digB l k)
  have hke := (runTo_le (p := digB) hk).2
  obtain ⟨k2, hk2⟩ : ∃ k2, runTo digB l k = k2 := ⟨_, rfl⟩
  rw [hk2] at hke
  have HK2 := Lib.hid hk2
  clear hc hu hk2
  go_enter Tryz.func99, Tryz.ntmps99
  go_wp2_with fail
  refine (run_digB l c k _ hk hl HC.out).mono ?_
  rw [HU.out]
  rintro e w1 ⟨rfl, H1⟩
  obtain ⟨cap, o, hcv, hcells⟩ := conv_bytes u w1
  have HCE := Lib.hid hcells
  clear hcells
  have X1 : Hid (Chg (OneB c) w w1) := Lib.hid (((Chg.refl _ _).alloc _).trans H1.out.2 (fun _ h => .inl h))
  have B1 : Hid (w1.heap[w.heap.size]? = some (.cells #[.int .i64 0, .string ⟨#[]⟩, .int .i64 0] 133 (0, 0))) := Lib.hid (H1.out.2.heap hal_new (by omega))
  have S1 : Hid (ScanAt w1 c l k2) := Lib.hid (by rw [← HK2.out]; exact H1.out.1)
  clear H1
  go_wp2
  go_loop [4, 5, 13] (fun a e i => ∃ j : Nat, j ≤ u.length ∧ i = .int .i64 j ∧ Hid (NumIs u j a e)) (fun _ _ i => u.length - (intOf i).toNat)
  case atStart => exact ⟨0, Nat.zero_le _, rfl, Lib.hid (.inl ⟨0, by decide, by decide, rfl, rfl, rfl⟩)⟩
  case round =>
    obtain ⟨j, hj, rfl, HN⟩ := hrel
    by_cases hlt : j < u.length
    · obtain ⟨x, hx⟩ : ∃ x, u[j]? = some x := ⟨_, List.getElem?_eq_getElem hlt⟩
      have hcx := HCE.out (w1.alloc o).drew (Chg.refl _ _) j x hx
      obtain ⟨hd1, hd2⟩ := dig_bd (takeWhile_dig HU.out hx)
      have HS := Lib.hid (numL_step hx)
      clear hx
      rcases HN.out with ⟨n, hn0, hn1, rfl, rfl, hN⟩ | ⟨rfl, hN, n, rfl⟩
      · have HN' := Lib.hid hN
        clear hN
        by_cases hq : (9223372036854775807 - ((x.toNat : Int) - 48)) / 10 < n
        · have HQ := Lib.hid hq
          go_wp2
          go_round
          case rel => exact ⟨j + 1, by omega, by go_num, Lib.hid (.inr ⟨rfl, by rw [← HN'.out, HS.out n, if_pos HQ.out], _, rfl⟩)⟩
          case measure => simp [intOf]; omega
        · have HQ := Lib.hid hq
          go_wp2
          go_round
          case rel => exact ⟨j + 1, by omega, by go_num, Lib.hid (.inl ⟨_, by omega, by have := HQ.out; unfold big63; omega, rfl, rfl, by rw [← HN'.out, HS.out n, if_neg HQ.out]⟩)⟩
          case measure => simp [intOf]; omega
      · have HN' := Lib.hid hN
        clear hN
        go_wp2
        all_goals
          go_round
          case rel => exact ⟨j + 1, by omega, by go_num, Lib.hid (.inr ⟨rfl, HN'.out, _, rfl⟩)⟩
          case measure => simp [intOf]; omega
    · have X2 : Hid (Chg (OneB c) w (w1.alloc o).drew) := Lib.hid (X1.out.alloc _).drew
      have B2 : Hid ((w1.alloc o).drew.heap[w.heap.size]? = some (.cells #[.int .i64 0, .string ⟨#[]⟩, .int .i64 0] 133 (0, 0))) := Lib.hid ((hal_old (lt_of_heap B1.out)).trans B1.out)
      have S2 : Hid (ScanAt (w1.alloc o).drew c l k2) := Lib.hid ((hal_old (lt_of_heap S1.out)).trans S1.out)
      have HJ := Lib.hid (show j = u.length by omega)
      clear hcv HCE
      go_wp2
      generalize (w1.alloc o).drew = w2 at X2 B2 S2 ⊢
      have c0 : w2.cell? ⟨c, 0, none⟩ = some (sv l) := cell_of_row w2 c 0 _ _ _ S2.out
      have c1 : w2.cell? ⟨c, 1, none⟩ = some (.int .i64 k2) := cell_of_row w2 c 1 _ _ _ S2.out
      have b0 : w2.cell? ⟨w.heap.size, 0, none⟩ = some (.int .i64 0) := cell_of_row w2 _ 0 _ _ _ B2.out
      have b1 : w2.cell? ⟨w.heap.size, 1, none⟩ = some (.string ⟨#[]⟩) := cell_of_row w2 _ 1 _ _ _ B2.out
      have b2 : w2.cell? ⟨w.heap.size, 2, none⟩ = some (.int .i64 0) := cell_of_row w2 _ 2 _ _ _ B2.out
      have fz : ∀ o, w2.frozen? ⟨w.heap.size, o, none⟩ = false := fun o => by simp [World.frozen?, B2.out]
      have HD' : Hid (l.drop k2 = (l.drop k).dropWhile digB) := Lib.hid (by rw [← HK2.out]; exact HD.out)
      by_cases hlt2 : k2 < l.length
      · obtain ⟨x, hx⟩ : ∃ x, l[k2]? = some x := ⟨_, List.getElem?_eq_getElem hlt2⟩
        have hb := ba_get hx
        have HL := Lib.hid (headLet_at hx)
        clear hx
        cases hsp : letB x with
        | true =>
          have HP := Lib.hid hsp
          clear hsp
          have HO : Hid (numberL (l.drop k) = none) := Lib.hid (numberL_let (by rw [← HD'.out, HL.out, HP.out]))
          rcases HN.out with ⟨n, _, _, rfl, rfl, hN⟩ | ⟨rfl, hN, n, rfl⟩
          all_goals
            clear hN
            go_quiet ((go_at_call 96; exact quiet_g ⟨_, rfl⟩ (letter_is HP.out _)))
            go_wp2
            refine tok_ret rfl rfl rfl (tok_set B2.out _ _ _) (TokOut.no (r := numberL (l.drop k)) (HO.out) (((((X2.out.drewN _).setCell (.inr (Nat.le_refl _)) _).setCell (.inr (Nat.le_refl _)) _).setCell (.inr (Nat.le_refl _)) _)) (by decide))
        | false =>
          have HP := Lib.hid hsp
          clear hsp
          rcases HN.out with ⟨n, _, _, rfl, rfl, hN⟩ | ⟨rfl, hN, n, rfl⟩
          · have HN' : Hid (numL u 0 = some n) := Lib.hid (by rw [← hN, HJ.out, List.drop_of_length_le (Nat.le_refl _)]; rfl)
            clear hN
            go_quiet ((go_at_call 96; exact quiet_g ⟨_, rfl⟩ (letter_is HP.out _)))
            go_wp2
            refine tok_ret rfl rfl rfl (tok_set B2.out _ _ _) (TokOut.yes (r := numberL (l.drop k)) (t := ⟨3, [], n⟩) (rest := (l.drop k).dropWhile digB) (numberL_ok HU.out HN'.out (by rw [← HD'.out]; exact HL.out.trans HP.out)) (((((X2.out.drewN _).setCell (.inr (Nat.le_refl _)) _).setCell (.inr (Nat.le_refl _)) _).setCell (.inr (Nat.le_refl _)) _)) hke HD'.out ?_)
            exact (hset_ne (by omega)).trans ((hset_ne (by omega)).trans ((hset_ne (by omega)).trans S2.out))
          · have HO : Hid (numberL (l.drop k) = none) := Lib.hid (numberL_big HU.out hN)
            clear hN
            go_quiet ((go_at_call 96; exact quiet_g ⟨_, rfl⟩ (letter_is HP.out _)))
            go_wp2
            refine tok_ret rfl rfl rfl (tok_set B2.out _ _ _) (TokOut.no (r := numberL (l.drop k)) (HO.out) (((((X2.out.drewN _).setCell (.inr (Nat.le_refl _)) _).setCell (.inr (Nat.le_refl _)) _).setCell (.inr (Nat.le_refl _)) _)) (by decide))
      · rcases HN.out with ⟨n, _, _, rfl, rfl, hN⟩ | ⟨rfl, hN, n, rfl⟩
        · have HN' : Hid (numL u 0 = some n) := Lib.hid (by rw [← hN, HJ.out, List.drop_of_length_le (Nat.le_refl _)]; rfl)
          clear hN
          go_quiet (fail)
          go_wp2
          refine tok_ret rfl rfl rfl (tok_set B2.out _ _ _) (TokOut.yes (r := numberL (l.drop k)) (t := ⟨3, [], n⟩) (rest := (l.drop k).dropWhile digB) (numberL_ok HU.out HN'.out (by rw [← HD'.out]; exact headLet_end (by omega))) (((((X2.out.drewN _).setCell (.inr (Nat.le_refl _)) _).setCell (.inr (Nat.le_refl _)) _).setCell (.inr (Nat.le_refl _)) _)) hke HD'.out ?_)
          exact (hset_ne (by omega)).trans ((hset_ne (by omega)).trans ((hset_ne (by omega)).trans S2.out))
        · have HO : Hid (numberL (l.drop k) = none) := Lib.hid (numberL_big HU.out hN)
          clear hN
          go_quiet (fail)
          go_wp2
          refine tok_ret rfl rfl rfl (tok_set B2.out _ _ _) (TokOut.no (r := numberL (l.drop k)) (HO.out) (((((X2.out.drewN _).setCell (.inr (Nat.le_refl _)) _).setCell (.inr (Nat.le_refl _)) _).setCell (.inr (Nat.le_refl _)) _)) (by decide))
end Go.Proofs.YtnbckfkdmkbopaaGreatDoor
