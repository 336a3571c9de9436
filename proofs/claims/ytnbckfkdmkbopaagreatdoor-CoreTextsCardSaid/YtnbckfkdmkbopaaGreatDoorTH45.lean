/-
  What a read that is chosen leaves out, the condition does not hold for: so nothing is lost. No condition.
  CoreTexts, the plain law: what is printed, in parentheses, is read as the same condition; NOT in front of it is its opposite. No condition beyond each lemma's own.
  How a value is shown, in plain Lean: quotes twice; how long what is printed may be. No condition beyond each lemma's own.
-/
import Derived.Test.YtnbckfkdmkbopaaGreatDoorTH43
import Derived.Test.YtnbckfkdmkbopaaGreatDoorTH44
import Derived.Test.YtnbckfkdmkbopaaGreatDoorTH38
import Derived.Test.YtnbckfkdmkbopaaGreatDoorTH39
import Derived.Test.YtnbckfkdmkbopaaGreatDoorTH33
set_option autoImplicit false
namespace Go.Proofs.YtnbckfkdmkbopaaGreatDoor
open Go Go.RowKit

theorem holds_out (cs : List Bcol) (r : RdF) (y : Ex) (hok : r.ok (questL cs y)) (row : List Val) (hr : rowOk cs row) (hn : ∀ v ∈ row, v.num ≤ 9223372036854775807) (h : covB r row = false) : holdsV row y = (false, 0) := by
  have h1 := quest_false cs row hr hn y (covB_law hok row h)
  unfold holdsV
  rw [h1]
  rfl
theorem filt_same (cs : List Bcol) (r : RdF) (y : Ex) (hok : r.ok (questL cs y)) : ∀ (rows : List (List Val)), (∀ row ∈ rows, rowOk cs row) → (∀ row ∈ rows, ∀ v ∈ row, v.num ≤ 9223372036854775807) → filtOut y (rows.filter (covB r)) = filtOut y rows := by
  intro rows
  induction rows with
  | nil => intro _ _; rfl
  | cons a l ih =>
    intro h1 h2
    have ih := ih (fun q hq => h1 q (.tail _ hq)) (fun q hq => h2 q (.tail _ hq))
    cases hc : covB r a with
    | false =>
      have h := holds_out cs r y hok a (h1 a (.head _)) (h2 a (.head _)) hc
      rw [List.filter_cons_of_neg (by simp [hc]), ih]
      unfold filtOut
      rw [List.filter_cons_of_neg (by simp [h])]
    | true =>
      rw [List.filter_cons_of_pos hc]
      unfold filtOut at ih ⊢
      simp only [List.filter_cons, ih]
theorem filt_err (cs : List Bcol) (r : RdF) (y : Ex) (hok : r.ok (questL cs y)) (rows : List (List Val)) : ∀ e0 : Int, (∀ row ∈ rows, rowOk cs row) → (∀ row ∈ rows, ∀ v ∈ row, v.num ≤ 9223372036854775807) → (rows.filter (covB r)).foldl (fun l q => seeE l (holdsV q y).2) e0 = rows.foldl (fun l q => seeE l (holdsV q y).2) e0 := by
  induction rows with
  | nil => intro _ _ _; rfl
  | cons a l ih =>
    intro e0 h1 h2
    have ih := fun e => ih e (fun q hq => h1 q (.tail _ hq)) (fun q hq => h2 q (.tail _ hq))
    cases hc : covB r a with
    | false =>
      have h := holds_out cs r y hok a (h1 a (.head _)) (h2 a (.head _)) hc
      rw [List.filter_cons_of_neg (by simp [hc]), ih, List.foldl_cons, h]
      rfl
    | true => rw [List.filter_cons_of_pos hc, List.foldl_cons, List.foldl_cons, ih]
theorem filtRes_same (cs : List Bcol) (r : RdF) (y : Ex) (hok : r.ok (questL cs y)) (rows : List (List Val)) (h1 : ∀ row ∈ rows, rowOk cs row) (h2 : ∀ row ∈ rows, ∀ v ∈ row, v.num ≤ 9223372036854775807) : filtErr y (rows.filter (covB r)) = filtErr y rows ∧ filtRes y (rows.filter (covB r)) = filtRes y rows := by
  have h := filt_err cs r y hok rows 0 h1 h2
  have h3 : filtErr y (rows.filter (covB r)) = filtErr y rows := h
  refine ⟨h3, ?_⟩
  unfold filtRes
  rw [h3, filt_same cs r y hok rows h1 h2]
theorem asked_ty {text : Str} {x y : Ex} (h : askedL text = some (x, y)) : ∃ t, tyL cols4 y = some t ∧ (t = 2 ∨ t = 0) := by
  unfold askedL at h
  split at h
  · cases h
  · split at h
    · cases h
    · rename_i y' t hb
      split at h
      · rename_i hc
        cases h
        exact ⟨t, bind_ty _ _ _ _ hb, by simpa using hc⟩
      · cases h
end Go.Proofs.YtnbckfkdmkbopaaGreatDoor

set_option autoImplicit false
namespace Go.Proofs.YtnbckfkdmkbopaaGreatDoor
open Go

theorem lexAll_nil (n : Nat) : lexAll n [] = some [] := by cases n <;> rfl
/-- a text that is cut into tokens, behind DELETE FROM t WHERE -/
theorem lexS_of {s : Str} {ts : List Tok} (h : Lexes s ts) (hl : ts.length ≤ s.length) (h2 : (pre ++ s).length ≤ 2048) : lexS (pre ++ s) = some (T4 ++ ts) := by
  unfold lexS
  rw [if_neg (by omega)]
  obtain ⟨m, hm⟩ : ∃ m, (pre ++ s).length = (ts.length + m) + 4 := ⟨s.length - ts.length + 16, by rw [List.length_append]; show 20 + s.length = _; omega⟩
  rw [hm, lexAll_pre]
  have := h [] m trivial
  rw [List.append_nil, lexAll_nil] at this
  rw [this]
  simp [consL]
theorem readL_of {s : Str} {ts : List Tok} {x : Ex} (h : Lexes s ts) (hl : ts.length ≤ s.length) (h2 : (pre ++ s).length ≤ 2048) (hp : pE (7 * ts.length + 7) 0 ts = some (x, [])) (h3 : x.hgt ≤ 32) : readL s = some x := by
  unfold readL
  rw [lexS_of h hl h2]
  show (match pFull ts with | none => none | some (x, r) => if endP r && decide (x.hgt ≤ 32) then some x else none) = some x
  unfold pFull
  rw [hp]
  simp [endP, nextT, h3]
theorem readL_long {s : Str} (h : 2048 < (pre ++ s).length) : readL s = none := by
  unfold readL lexS
  rw [if_pos h]
/-- ((s)) -/
def dpar (s : Str) : Str := [40, 40] ++ s ++ [41, 41]
/-- not (s) -/
def npar (s : Str) : Str := [110, 111, 116, 32, 40] ++ s ++ [41]
theorem parT_f (ts : List Tok) : (parT false ts).length = ts.length + 2 := by show (_ :: (ts ++ [_])).length = _; simp
theorem parS_f (s : Str) : (parS false s).length = s.length + 2 := by show (_ :: (s ++ [_])).length = _; simp
theorem dpar_eq (s : Str) : dpar s = parS false (parS false s) := by simp [dpar, parS]
theorem npar_eq (s : Str) : npar s = [110, 111, 116] ++ 32 :: parS false s := by simp [npar, parS]
theorem lexes_nots : Lexes [110, 111, 116] [⟨1, sNOT, 0⟩] := lexes_kw [110, 111, 116] _ _ rfl (by decide) (by decide) (by decide +kernel)
theorem full_at {B : Nat} {A : List Tok} {x : Ex} (h : Full B A x) (hB : B ≤ 7 * A.length + 7) : pE (7 * A.length + 7) 0 A = some (x, []) := by
  have := h (7 * A.length + 7) [] hB stops_nil
  rwa [List.append_nil] at this
theorem read_dpar {x : Ex} (hx : PrintOk x) (hh : x.hgt ≤ 32) (hl : (printL x).length ≤ 2000) : readL (dpar (printL x)) = some x := by
  rw [dpar_eq]
  have h1 := lexes_par false (lexes_par false (lexes_print x hx))
  have h2 := par_len false (par_len false (toks_len x hx))
  refine readL_of h1 h2 ?_ ?_ hh
  · rw [← dpar_eq]
    simp only [dpar, List.length_append, List.length_cons, List.length_nil]
    show 20 + _ ≤ _
    omega
  · have f := full_atom (atom_par (full_atom (atom_par (parse_print x hx))))
    refine full_at f ?_
    rw [parT_f, parT_f]
    omega
theorem read_npar {x : Ex} (hx : PrintOk x) : readL (npar (printL x)) = none ∨ readL (npar (printL x)) = some (.un 4 x) := by
  by_cases h2 : (pre ++ npar (printL x)).length ≤ 2048
  · by_cases hh : (Ex.un 4 x).hgt ≤ 32
    · refine .inr ?_
      have h1 := lexes_nots.app (lexes_par false (lexes_print x hx)).sp fun rest _ => sep_sp _ rest
      rw [npar_eq] at h2 ⊢
      refine readL_of h1 ?_ h2 ?_ hh
      · have := par_len false (toks_len x hx)
        simp only [List.length_cons, List.length_append, List.length_nil]
        omega
      · have f := full_not (atom_par (parse_print x hx))
        refine full_at f ?_
        simp only [List.length_cons, List.length_append, List.length_nil, parT_f]
        omega
    · refine .inl ?_
      have h1 := lexes_nots.app (lexes_par false (lexes_print x hx)).sp fun rest _ => sep_sp _ rest
      rw [npar_eq] at h2 ⊢
      have hl : ([(⟨1, sNOT, 0⟩ : Tok)] ++ parT false (toksL x)).length ≤ ([110, 111, 116] ++ 32 :: parS false (printL x)).length := by
        have := par_len false (toks_len x hx)
        simp only [List.length_cons, List.length_append, List.length_nil] at this ⊢
        omega
      have f := full_not (atom_par (parse_print x hx))
      have hp := full_at f (by simp only [List.length_cons, List.length_append, List.length_nil]; omega)
      unfold readL
      rw [lexS_of h1 hl h2]
      show (match pFull (wT sNOT :: (oT [40] :: (toksL x ++ [oT [41]]))) with | none => none | some (x, r) => if endP r && decide (x.hgt ≤ 32) then some x else none) = none
      unfold pFull
      rw [hp]
      have : decide ((Ex.un 4 x).hgt ≤ 32) = false := by simpa using hh
      simp [this]
  · exact .inl (readL_long (by omega))
theorem asked_read {text : Str} {x y : Ex} (h : askedL text = some (x, y)) : readL text = some x ∧ ∃ t, bindL cols4 x = some (y, t) ∧ (t = 2 ∨ t = 0) := by
  unfold askedL at h
  split at h
  · cases h
  · rename_i x' hx
    split at h
    · cases h
    · rename_i y' t hb
      split at h
      · rename_i hc
        cases h
        exact ⟨hx, t, hb, by simpa using hc⟩
      · cases h
theorem asked_print {text : Str} {x y : Ex} (h : askedL text = some (x, y)) : PrintOk x := by
  obtain ⟨h1, t, h2, _⟩ := asked_read h
  exact printOk_of cols4 x y t (read_leaves h1).1 h2
theorem asked_dpar {text : Str} {x y : Ex} (h : askedL text = some (x, y)) (hl : (printL x).length ≤ 2000) : askedL (dpar (printL x)) = some (x, y) := by
  obtain ⟨h1, t, h2, h3⟩ := asked_read h
  unfold askedL
  rw [read_dpar (asked_print h) (read_leaves h1).2 hl]
  simp only [h2]
  rw [if_pos (by rcases h3 with rfl | rfl <;> rfl)]
/-- whatever is read of ((s)), if anything, is the condition -/
theorem asked_dpar_any {text : Str} {x y : Ex} (h : askedL text = some (x, y)) : askedL (dpar (printL x)) = some (x, y) ∨ (askedL (dpar (printL x)) = none ∧ 2000 < (printL x).length) := by
  by_cases hl : (printL x).length ≤ 2000
  · exact .inl (asked_dpar h hl)
  · by_cases h2 : (pre ++ dpar (printL x)).length ≤ 2048
    · refine .inl ?_
      obtain ⟨h1, t, hb, h3⟩ := asked_read h
      have hx := asked_print h
      have hr : readL (dpar (printL x)) = some x := by
        rw [dpar_eq] at h2 ⊢
        refine readL_of (lexes_par false (lexes_par false (lexes_print x hx))) (par_len false (par_len false (toks_len x hx))) h2 ?_ (read_leaves h1).2
        refine full_at (full_atom (atom_par (full_atom (atom_par (parse_print x hx))))) ?_
        rw [parT_f, parT_f]
        omega
      unfold askedL
      rw [hr]
      simp only [hb]
      rw [if_pos (by rcases h3 with rfl | rfl <;> rfl)]
    · refine .inr ⟨?_, by omega⟩
      unfold askedL
      rw [readL_long (by omega)]
theorem asked_npar {text : Str} {x y : Ex} (h : askedL text = some (x, y)) : askedL (npar (printL x)) = none ∨ askedL (npar (printL x)) = some (.un 4 x, .un 4 y) := by
  obtain ⟨h1, t, h2, h3⟩ := asked_read h
  rcases read_npar (asked_print h) with hr | hr
  · exact .inl (by unfold askedL; rw [hr])
  · refine .inr ?_
    unfold askedL
    rw [hr]
    have hb : bindL cols4 (.un 4 x) = some (.un 4 y, 2) := by
      simp only [bindL, h2]
      rcases h3 with rfl | rfl <;> rfl
    simp only [hb]
    rfl
/-- what the opposite comes to -/
theorem find_not (row : List Val) (y : Ex) (h : ∀ v e, findV row y 0 = (v, e) → okV v = true ∧ (v.kind = 2 ∨ v.kind = 0)) :
    (evalV row (.un 4 y)).2 = (evalV row y).2 ∧ ((evalV row y).2 = 0 → ((evalV row y).1.kind = 0 ∧ (evalV row (.un 4 y)).1.kind = 0) ∨ ((evalV row y).1.kind = 2 ∧ (evalV row (.un 4 y)).1.kind = 2 ∧ (evalV row y).1.num ≠ (evalV row (.un 4 y)).1.num)) := by
  obtain ⟨v, e, hv⟩ : ∃ v e, findV row y 0 = (v, e) := ⟨_, _, rfl⟩
  obtain ⟨hok, hk⟩ := h v e hv
  have e1 : evalV row y = if e = 0 then (v, 0) else (Val.null, e) := by unfold evalV; rw [hv]
  have e2 : findV row (.un 4 y) 0 = if v.kind == 0 then (v, e) else (truthV (v.num == 0), e) := by
    conv => lhs; unfold findV
    rw [hv]
    rfl
  rcases hk with h2 | h0
  · have hb : (v.kind == 0) = false := by simp [h2]
    rw [hb] at e2
    have e3 : evalV row (.un 4 y) = if e = 0 then (truthV (v.num == 0), 0) else (Val.null, e) := by unfold evalV; rw [e2]; rfl
    rw [e1, e3]
    by_cases he : e = 0
    · rw [if_pos he, if_pos he]
      refine ⟨rfl, fun _ => .inr ⟨h2, rfl, ?_⟩⟩
      have hn : v.num = 0 ∨ v.num = 1 := by
        unfold okV at hok
        rw [h2] at hok
        simp at hok
        exact hok.1
      rcases hn with hn | hn <;> simp [hn, truthV]
    · rw [if_neg he, if_neg he]
      exact ⟨rfl, fun h => absurd h he⟩
  · have hb : (v.kind == 0) = true := by simp [h0]
    rw [hb] at e2
    have e3 : evalV row (.un 4 y) = if e = 0 then (v, 0) else (Val.null, e) := by unfold evalV; rw [e2]; rfl
    rw [e1, e3]
    by_cases he : e = 0
    · rw [if_pos he]
      exact ⟨rfl, fun _ => .inl ⟨h0, h0⟩⟩
    · rw [if_neg he]
      exact ⟨rfl, fun h => absurd h he⟩
theorem eval_not {text : Str} {x y : Ex} (h : askedL text = some (x, y)) {row : List Val} (hr : rowOk cols4 row) :
    (evalV row (.un 4 y)).2 = (evalV row y).2 ∧ ((evalV row y).2 = 0 → ((evalV row y).1.kind = 0 ∧ (evalV row (.un 4 y)).1.kind = 0) ∨ ((evalV row y).1.kind = 2 ∧ (evalV row (.un 4 y)).1.kind = 2 ∧ (evalV row y).1.num ≠ (evalV row (.un 4 y)).1.num)) := by
  obtain ⟨t, ht, h3⟩ := asked_ty h
  have hf := fits_find cols4 row hr y t 0 ht
  refine find_not row y fun v e hv => ?_
  rw [hv] at hf
  refine ⟨hf.1, ?_⟩
  rcases hf.2 with h | h
  · exact .inr h
  · rcases h3 with rfl | rfl
    · exact .inl h
    · exact .inr h
end Go.Proofs.YtnbckfkdmkbopaaGreatDoor

set_option autoImplicit false
namespace Go.Proofs.YtnbckfkdmkbopaaGreatDoor
open Go

theorem pre39 (c : UInt8) (r : Str) : ([39] : Str).isPrefixOf (c :: r) = (39 == c) := by simp [List.isPrefixOf]
theorem dbl_miss : ∀ s : Str, Lib.index s [39] = -1 → dbl s = s
  | [], _ => rfl
  | c :: r, h => by
    unfold Lib.index at h
    rw [pre39] at h
    by_cases hc : (39 == c) = true
    · rw [if_pos hc] at h; cases h
    · rw [if_neg hc] at h
      have hn : c ≠ 39 := fun e => hc (by simp [e])
      have hi : Lib.index r [39] = -1 := by
        have := Lib.index_ge r [39]
        split at h
        · rename_i hb; simpa using hb
        · omega
      simp only [dbl, hn, if_false, dbl_miss r hi]
theorem dbl_hit : ∀ (s : Str) (i : Nat), Lib.index s [39] = i → dbl s = s.take i ++ [39, 39] ++ dbl (s.drop (i + 1))
  | [], i, h => by
    unfold Lib.index at h
    simp at h
  | c :: r, i, h => by
    unfold Lib.index at h
    rw [pre39] at h
    by_cases hc : (39 == c) = true
    · rw [if_pos hc] at h
      obtain rfl : i = 0 := by omega
      obtain rfl : 39 = c := by simpa using hc
      simp [dbl]
    · rw [if_neg hc] at h
      have hn : c ≠ 39 := fun e => hc (by simp [e])
      have hg := Lib.index_ge r [39]
      split at h
      · omega
      · rename_i hm
        have hm' : Lib.index r [39] ≠ -1 := by simpa using hm
        obtain ⟨k, rfl⟩ : ∃ k, i = k + 1 := ⟨i - 1, by omega⟩
        have := dbl_hit r k (by omega)
        simp only [dbl, hn, if_false, this]
        simp
theorem dbl_replaceK : ∀ (n : Nat) (s : Str), s.length ≤ n → Lib.replaceK [39] [39, 39] (Lib.count s [39]) s = dbl s := by
  intro n
  induction n with
  | zero =>
    intro s h
    obtain rfl : s = [] := List.length_eq_zero_iff.1 (by omega)
    have e : Lib.count ([] : Str) [39] = 0 := Lib.count_miss (by decide)
    rw [e]
    rfl
  | succ n ih =>
    intro s h
    have hg := Lib.index_ge s [39]
    by_cases hm : Lib.index s [39] = -1
    · rw [Lib.count_miss hm, dbl_miss s hm]; rfl
    · obtain ⟨i, hi⟩ : ∃ i : Nat, Lib.index s [39] = i := ⟨(Lib.index s [39]).toNat, by omega⟩
      have hs : s ≠ [] := by rintro rfl; exact hm (by decide)
      have hl : 0 < s.length := List.length_pos_iff.2 hs
      rw [Lib.count_hit (by simp) hi, Nat.add_comm, Lib.replaceK_hit _ _ _ _ i hi, dbl_hit s i hi]
      have := ih (s.drop (i + [39].length)) (by rw [List.length_drop]; simp; omega)
      exact congrArg (fun z => s.take i ++ [39, 39] ++ z) this
theorem dbl_replace (s : Str) : Lib.replaceAll s [39] [39, 39] = dbl s := by
  unfold Lib.replaceAll Lib.replace
  rw [if_neg (by decide)]
  unfold Lib.replaceNum
  rw [if_pos (.inl (by decide))]
  exact dbl_replaceK _ s (Nat.le_refl _)
theorem dbl_len : ∀ s : Str, (dbl s).length ≤ 2 * s.length
  | [] => Nat.le_refl _
  | c :: r => by
    have := dbl_len r
    simp only [dbl]
    split <;> simp only [List.length_cons] <;> omega
theorem dec_len (n : Nat) (h : n ≤ 9223372036854775807) : (Lib.decDigits n).length ≤ 20 := by
  have key : ∀ (k : Nat) (n : Nat), n < 10 ^ (k + 1) → (Lib.decDigits n).length ≤ k + 1 := by
    intro k
    induction k with
    | zero => intro n h; rw [Lib.decDigits, dif_pos (by simpa using h)]; simp
    | succ k ih =>
      intro n h
      rw [Lib.decDigits]
      split
      · simp
      · have := ih (n / 10) (by rw [Nat.pow_succ] at h; omega)
        simp only [List.length_append, List.length_cons, List.length_nil]
        omega
  exact key 19 n (Nat.lt_of_le_of_lt h (by decide))
theorem show_len {v : Val} (h : LitOk v) : (showL v).length ≤ 150 := by
  rcases h with rfl | ⟨n, hn, rfl⟩ | rfl | rfl | ⟨s, hs, rfl⟩
  · decide
  · show (Lib.itoa (n : Int)).length ≤ 150
    rw [itoa_nat]
    have := dec_len n hn
    omega
  · decide
  · decide
  · show (39 :: (dbl s ++ [39])).length ≤ 150
    have := dbl_len s
    simp; omega
theorem signOf_len (k : Int) : (signOf k).length ≤ 3 := by
  unfold signOf
  repeat' split
  all_goals decide
theorem parS_len (b : Bool) (s : Str) : (parS b s).length ≤ s.length + 2 := by
  cases b
  · simp [parS]
  · simp [parS]
theorem print_len : ∀ x : Ex, PrintOk x → (printL x).length + 20 ≤ 170 * 2 ^ x.hgt
  | .val v, h => by
    have := show_len h
    show (showL v).length + 20 ≤ 170 * 2 ^ 1
    omega
  | .col t n, ⟨ht, hn⟩ => by
    have h1 : n.length ≤ 32 := hn.2.2.2.2.2
    have h2 : t.length ≤ 32 := by rcases ht with rfl | ht; exact Nat.zero_le _; exact ht.2.2.2.2.2
    show (if t.isEmpty then n else t ++ 46 :: n).length + 20 ≤ 170 * 2 ^ 1
    split
    · omega
    · simp; omega
  | .slot _, h => h.elim
  | .cnt, h => h.elim
  | .un k a, ⟨hk, ha⟩ => by
    have i1 := print_len a ha
    have i2 := parS_len a.leaf (printL a)
    have e : 2 ^ (Ex.un k a).hgt = 2 * 2 ^ a.hgt := by show 2 ^ (a.hgt + 1) = _; rw [Nat.pow_succ, Nat.mul_comm]
    rw [e]
    rcases hk with rfl | rfl | rfl | rfl
    · show (45 :: parS a.leaf (printL a)).length + 20 ≤ _
      simp only [List.length_cons]; omega
    · show (sNOT ++ 32 :: parS a.leaf (printL a)).length + 20 ≤ _
      simp only [List.length_cons, List.length_append, show sNOT.length = 3 from rfl]; omega
    · show (parS a.leaf (printL a) ++ 32 :: (sIS ++ 32 :: sNULL)).length + 20 ≤ _
      simp only [List.length_cons, List.length_append, show sIS.length = 2 from rfl, show sNULL.length = 4 from rfl]; omega
    · show (parS a.leaf (printL a) ++ 32 :: (sIS ++ 32 :: (sNOT ++ 32 :: sNULL))).length + 20 ≤ _
      simp only [List.length_cons, List.length_append, show sIS.length = 2 from rfl, show sNULL.length = 4 from rfl, show sNOT.length = 3 from rfl]; omega
  | .bin k a b, ⟨hk, ha, hb⟩ => by
    have i1 := print_len a ha
    have i2 := print_len b hb
    have j1 := parS_len a.leaf (printL a)
    have j2 := parS_len b.leaf (printL b)
    have j3 := signOf_len k
    have e : 2 ^ (Ex.bin k a b).hgt = 2 * 2 ^ (max a.hgt b.hgt) := by show 2 ^ (max a.hgt b.hgt + 1) = _; rw [Nat.pow_succ, Nat.mul_comm]
    have h1 : 2 ^ a.hgt ≤ 2 ^ (max a.hgt b.hgt) := Nat.pow_le_pow_right (by decide) (Nat.le_max_left _ _)
    have h2 : 2 ^ b.hgt ≤ 2 ^ (max a.hgt b.hgt) := Nat.pow_le_pow_right (by decide) (Nat.le_max_right _ _)
    rw [e]
    show (parS a.leaf (printL a) ++ 32 :: (signOf k ++ 32 :: parS b.leaf (printL b))).length + 20 ≤ _
    simp only [List.length_cons, List.length_append]; omega
theorem print_len' {x : Ex} (h : PrintOk x) (h2 : x.hgt ≤ 32) : (printL x).length ≤ 1000000000000 := by
  have h1 := print_len x h
  have h3 : 2 ^ x.hgt ≤ 2 ^ 32 := Nat.pow_le_pow_right (by decide) h2
  have h4 : (2 : Nat) ^ 32 = 4294967296 := by decide
  omega
end Go.Proofs.YtnbckfkdmkbopaaGreatDoor
