/-
  The scanner's All: a text's tokens. No condition beyond each lemma's own.
  Parse, at a text that begins with DELETE FROM t WHERE. No condition beyond each lemma's own.
-/
import Derived.Test.YtnbckfkdmkbopaaGreatDoorTH32
import Derived.Test.YtnbckfkdmkbopaaGreatDoorTH29
set_option autoImplicit false
namespace Go.Proofs.YtnbckfkdmkbopaaGreatDoor
open Go Go.RowKit

theorem runTo_head (p : UInt8 → Bool) (l : Str) (k : Nat) : ∀ x, l[runTo p l k]? = some x → p x = false := by
  intro x hx
  have hd := runTo_drop p l k
  rw [drop_cons hx] at hd
  cases h : p x with
  | false => rfl
  | true =>
    have := dropWhile_twice p (l.drop k)
    rw [← hd, List.dropWhile_cons, if_pos h] at this
    have h2 := dropWhile_len p (l.drop (runTo p l k + 1))
    rw [this] at h2
    simp at h2
    omega
set_option maxRecDepth 100000 in
set_option maxHeartbeats 2000000 in
theorem all_any (l : Str) (w : World) (hg : Glob w) (h10 : 10 ≤ w.heap.size) (hbl : l.length ≤ 9223372036854775807) : Calls Tryz.prog 36 #[sv l] w (AllOut (lexS l) w) := by
  by_cases hbig : 2048 < l.length
  · have HB : Hid (lexS l = none) := Lib.hid (by unfold lexS; rw [if_pos hbig])
    have hb' : (2048 : Int) < l.length := by omega
    go_enter Tryz.func36, Tryz.ntmps36
    go_wp2
    refine bodyPost_ret (v := .tuple #[nilS, .int .i64 30]) (by simp [results, Tryz.results36, go_sem]) rfl (AllOut.no HB.out (by decide) (Chg.refl _ _))
  · have hl : l.length ≤ 2048 := by omega
    have hb' : ¬ (2048 : Int) < l.length := by omega
    have HG := Lib.hid hg
    have HB0 : Hid (LexIs l l.length 0 []) := Lib.hid (by
      unfold LexIs lexS
      rw [if_neg hbig, List.drop_zero]
      cases lexAll l.length l <;> simp)
    clear hbig hg
    go_enter Tryz.func36, Tryz.ntmps36
    go_wp2_with fail
    refine (space_any l w.heap.size 0 _ (Nat.zero_le _) hl hal_new).mono ?_
    rintro e w1 ⟨rfl, H1⟩
    have S1 : Hid (ScanAt w1 w.heap.size l (runTo spB l 0)) := Lib.hid H1.out.1
    have X1 : Hid (Chg NoB w w1) := Lib.hid (((Chg.refl _ _).alloc _).trans H1.out.2 (fun k h => .inr (by unfold OneB at h; omega)))
    clear H1
    go_wp2
    go_loopw [5] (fun v wr => ∃ (j n : Nat) (ts : List Tok), j ≤ l.length ∧ ts.length ≤ j ∧ l.length ≤ n + j ∧ Hid (LexIs l n j ts) ∧ Hid (∀ x, l[j]? = some x → spB x = false) ∧ Hid (ScanAt wr w.heap.size l j) ∧ Hid (Own 133 3 wr (w.heap.size + 1) v ts.length (tokCells ts)) ∧ Hid (Chg NoB w wr)) (fun _ wr => l.length - scPos wr w.heap.size)
    case atStart => exact ⟨runTo spB l 0, l.length, [], (runTo_le (Nat.zero_le _)).2, by simp, by omega, Lib.hid HB0.out.space, Lib.hid (runTo_head spB l 0), S1, Lib.hid (Own.nil _ _ _ _), X1⟩
    case round =>
      obtain ⟨j, n, ts, hj, hts, hnj, HL, HN, SC, OW, CX⟩ := hrel
      have c0 : wr.cell? ⟨w.heap.size, 0, none⟩ = some (sv l) := cell_of_row wr _ 0 _ _ _ SC.out
      have c1 : wr.cell? ⟨w.heap.size, 1, none⟩ = some (.int .i64 j) := cell_of_row wr _ 1 _ _ _ SC.out
      have HPos := Lib.hid (scPos_at SC.out)
      have hsz := lt_of_heap SC.out
      obtain ⟨ao, cap, hu, _⟩ := OW.out.form
      subst hu
      by_cases hlt : j < l.length
      · obtain ⟨x, hx⟩ : ∃ x, l[j]? = some x := ⟨_, List.getElem?_eq_getElem hlt⟩
        have HX := Lib.hid hx
        clear hx
        obtain ⟨f, hf⟩ : ∃ f, tk x = f := ⟨_, rfl⟩
        have hfc : f = 97 ∨ f = 99 ∨ f = 100 ∨ f = 101 := by
          subst hf
          rcases tk_cases x with ⟨_, h⟩ | ⟨_, _, h⟩ | ⟨_, _, _, h⟩ | ⟨_, _, _, h⟩ <;> rw [h] <;> simp
        have HF := Lib.hid hf
        clear hf
        go_wp2_with fail
        refine (stake_any l w.heap.size j x _ HX.out SC.out).mono ?_
        rw [HF.out]
        rintro e w2 ⟨rfl, X2⟩
        have S2 : Hid (ScanAt w2 w.heap.size l j) := Lib.hid (X2.heap SC.out (fun h => h))
        have C2 : Hid (Chg NoB w w2) := Lib.hid (CX.out.trans X2 (fun _ h => h.elim))
        have O2 := Lib.hid (OW.out.quiet X2)
        clear X2
        rcases hfc with rfl | rfl | rfl | rfl
        all_goals
          go_wp2_with fail
          refine (lone_any HF.out l w.heap.size j _ HX.out hl S2.out (HG.out.quiet C2.out) h10).mono ?_
          rintro e w3 HO
          have X3 := Lib.hid HO.1
          have C3 : Hid (Chg NoB w w3) := Lib.hid (C2.out.trans HO.1 (fun k h => .inr (by unfold OneB at h; omega)))
          have O3 := Lib.hid (O2.out.chg HO.1 (fun g hg h => by have := O2.out.lo g hg; unfold OneB at h; omega))
          obtain ⟨r, hr⟩ : ∃ r, oneL x (l.drop (j + 1)) = r := ⟨_, rfl⟩
          rw [hr] at HO
          rcases r with _ | ⟨t, rest⟩
          · obtain ⟨_, q, hq, rfl⟩ := HO
            have HB : Hid (lexS l = none) := Lib.hid (by
              obtain ⟨n', rfl⟩ : ∃ n', n = n' + 1 := ⟨n - 1, by omega⟩
              exact HL.out.bad HX.out (HN.out x HX.out) hr)
            clear hr
            have hq1 : (q == 0) = false := by simpa using hq
            have hq2 : (q != 0) = true := by simpa using hq
            have HQ := Lib.hid hq
            clear hq
            go_wp2
            exact bodyPost_ret (v := .tuple #[nilS, .int .i64 q]) (by simp [results, Tryz.results36, go_sem]) rfl (AllOut.no HB.out HQ.out (C3.out.alloc _))
          · obtain ⟨_, rfl, k', hk', hd, hs3⟩ := HO
            have S3 := Lib.hid hs3
            have hjk : j + 1 ≤ k' := by
              have h1 := oneL_len hr
              rw [← hd] at h1
              simp at h1
              omega
            have HL3 : Hid (LexIs l (n - 1) k' (ts ++ [t])) := Lib.hid (by
              obtain ⟨n', rfl⟩ : ∃ n', n = n' + 1 := ⟨n - 1, by omega⟩
              exact HL.out.step HX.out (HN.out x HX.out) (by rw [hr, hd]))
            clear hr hd hs3
            have hz3 := C3.out.size
            go_wp2_with (at_builtin; refine own_app tok_ok rfl _ _ rfl (w.heap.size + 1) _ ts.length (tokCells ts) rfl (Own.quiet O3.out (((Chg.refl _ _).alloc _).alloc _)) (fun _ => True) _ 1 t.cells rfl (row_one (hal_newL ?_) trivial) rfl ?_ ?_ ?_ ?_ ?_)
            · simp
            · exact tokCells_one [t] |> fun h u hu => h u (by simpa [tokCells] using hu)
            · unfold maxLen; omega
            · omega
            · have := lt_of_heap S3.out; simp; omega
            · intro v9 w9 r9 x9 _
              obtain ⟨ao9, cap9, rfl, _⟩ := r9.form
              have hn9 : Hid (∀ g, (Value.slice ao ts.length cap).ownBlock = some g → w.heap.size + 1 ≤ g) := Lib.hid OW.out.lo
              have y9 := (((Chg.refl (fun g => (Value.slice ao ts.length cap).ownBlock = some g) w3).alloc (.cells #[.int .i64 t.kind, sv t.text, .int .i64 t.num] 133)).alloc (.cells #[.int .i64 t.kind, sv t.text, .int .i64 t.num] 133)).trans x9 (fun k h => .inl h)
              have S9 : Hid (ScanAt w9 w.heap.size l k') := Lib.hid (y9.heap S3.out (fun h => by have := hn9.out _ h; omega))
              have C9 : Hid (Chg NoB w w9) := Lib.hid (C3.out.trans y9 (fun g h => .inr (by have := hn9.out _ h; omega)))
              have R9 := Lib.hid r9
              clear r9 x9 y9
              go_wp2_with fail
              refine (space_any l w.heap.size k' _ hk' hl S9.out).mono ?_
              rintro e w4 ⟨rfl, H4⟩
              have S4 : Hid (ScanAt w4 w.heap.size l (runTo spB l k')) := Lib.hid H4.out.1
              have C4 : Hid (Chg NoB w w4) := Lib.hid (C9.out.trans H4.out.2 (fun k h => .inr (by unfold OneB at h; omega)))
              have R4 : Hid (Own 133 3 w4 (w.heap.size + 1) (.slice ao9 (ts.length + 1) cap9) (ts ++ [t]).length (tokCells (ts ++ [t]))) := Lib.hid (by
                have := R9.out.chg H4.out.2 (fun g hg h => by have := R9.out.lo g hg; unfold OneB at h; omega)
                simpa [tokCells] using this)
              clear H4
              have hk2 := runTo_le (p := spB) hk'
              go_wp2
              have e1 := scPos_at S4.out
              have e2 := HPos.out
              exact ⟨⟨runTo spB l k', n - 1, ts ++ [t], hk2.2, by simp; omega, by omega, Lib.hid HL3.out.space, Lib.hid (runTo_head spB l k'), S4, R4, C4⟩, by omega⟩
      · have HE : Hid (lexS l = some ts) := Lib.hid (HL.out.end_ (by omega))
        go_wp2
        refine bodyPost_ret (v := .tuple #[.slice ao ts.length cap, .int .i64 0]) (by simp [results, Tryz.results36, go_sem]) rfl (AllOut.yes HE.out CX.out OW.out.cap (OW.out.read.mono (fun k h _ => by omega)) (by omega))
end Go.Proofs.YtnbckfkdmkbopaaGreatDoor

set_option autoImplicit false
namespace Go.Proofs.YtnbckfkdmkbopaaGreatDoor
open Go Go.RowKit

def T4 : List Tok := [⟨1, sDELETE, 0⟩, ⟨1, sFROM, 0⟩, ⟨2, [116], 0⟩, ⟨1, sWHERE, 0⟩]
def consT (t : Tok) : Option (List Tok) → Option (List Tok)
  | none => none
  | some ts => some (t :: ts)
theorem lexAll_sp32 (n : Nat) (t : Str) : lexAll n (32 :: t) = lexAll n t := by
  rw [← lexAll_sp n (32 :: t), ← lexAll_sp n t]
  rfl
theorem lex_delete (n : Nat) (t : Str) : lexAll (n + 1) (100 :: 101 :: 108 :: 101 :: 116 :: 101 :: 32 :: t) = consT ⟨1, sDELETE, 0⟩ (lexAll n (32 :: t)) := by kernel_rfl
theorem lex_from (n : Nat) (t : Str) : lexAll (n + 1) (102 :: 114 :: 111 :: 109 :: 32 :: t) = consT ⟨1, sFROM, 0⟩ (lexAll n (32 :: t)) := by kernel_rfl
theorem lex_t (n : Nat) (t : Str) : lexAll (n + 1) (116 :: 32 :: t) = consT ⟨2, [116], 0⟩ (lexAll n (32 :: t)) := by kernel_rfl
theorem lex_where (n : Nat) (t : Str) : lexAll (n + 1) (119 :: 104 :: 101 :: 114 :: 101 :: 32 :: t) = consT ⟨1, sWHERE, 0⟩ (lexAll n (32 :: t)) := by kernel_rfl
theorem lexAll_pre (n : Nat) (text : Str) : lexAll (n + 4) (pre ++ text) = (lexAll n text).map (T4 ++ ·) := by
  have e : pre ++ text = 100 :: 101 :: 108 :: 101 :: 116 :: 101 :: 32 :: (102 :: 114 :: 111 :: 109 :: 32 :: (116 :: 32 :: (119 :: 104 :: 101 :: 114 :: 101 :: 32 :: text))) := rfl
  rw [e, lex_delete (n + 3), lexAll_sp32, lex_from (n + 2), lexAll_sp32, lex_t (n + 1), lexAll_sp32, lex_where n, lexAll_sp32]
  cases lexAll n text <;> rfl
theorem lexS_pre {text : Str} {ts : List Tok} (h : lexS (pre ++ text) = some ts) : ∃ r, ts = T4 ++ r := by
  unfold lexS at h
  split at h
  · cases h
  · have hl : (pre ++ text).length = (16 + text.length) + 4 := by rw [List.length_append, Nat.add_comm]; show text.length + 20 = _; omega
    rw [hl, lexAll_pre] at h
    cases hq : lexAll (16 + text.length) text with
    | none => rw [hq] at h; cases h
    | some r => rw [hq] at h; exact ⟨r, (by simpa using h.symm)⟩
end Go.Proofs.YtnbckfkdmkbopaaGreatDoor
