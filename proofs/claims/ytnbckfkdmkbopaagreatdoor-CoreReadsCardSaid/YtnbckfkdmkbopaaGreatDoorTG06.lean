/-
  The parser's small functions: must, next, sign, word, take, name. No condition beyond each lemma's own.
-/
import Derived.Test.YtnbckfkdmkbopaaGreatDoorTG04
import Derived.Test.YtnbckfkdmkbopaaGreatDoorTG05
set_option autoImplicit false
namespace Go.Proofs.YtnbckfkdmkbopaaGreatDoor
open Go Go.RowKit

theorem hal_new' {w : World} {o : Obj} {n : Nat} (h : n = w.heap.size) : (w.alloc o).heap[n]? = some o := by subst h; exact hal_new
abbrev OneP (p : Nat) : Nat → Prop := fun k => k = p
abbrev NotP (p : Nat) : Nat → Prop := fun k => ¬ k = p
abbrev fault : List PanicEntry := [{ v := .iface 97 (.agg #[]), recovered := false }]
/-- a parser ahead of tokens, which lie in block tb -/
def PAt (w : World) (p tb : Nat) (ts : List Tok) : Prop := tb < w.heap.size ∧ tb ≠ p ∧ ∃ ao c, ts.length ≤ c ∧ w.heap[p]? = some (.cells #[.slice ao ts.length c] 101 (0, 0)) ∧ ToksAt w (fun k => k = tb) (.slice ao ts.length c) ts
theorem PAt.chg {w w' : World} {p tb : Nat} {ts : List Tok} {G : Nat → Prop} (h : PAt w p tb ts) (c : Chg G w w') (h1 : ¬ G p) (h2 : ¬ G tb) : PAt w' p tb ts := by
  obtain ⟨hl, hne, ao, cap, hc, hh, ht⟩ := h
  exact ⟨Nat.lt_of_lt_of_le hl c.size, hne, ao, cap, hc, c.heap hh h1, ht.chg c (fun k hk => by subst hk; exact h2)⟩
theorem PAt.quiet {w w' : World} {p tb : Nat} {ts : List Tok} (h : PAt w p tb ts) (c : Chg NoB w w') : PAt w' p tb ts := h.chg c (fun h => h) (fun h => h)
theorem PAt.lt {w : World} {p tb : Nat} {ts : List Tok} (h : PAt w p tb ts) : p < w.heap.size := by
  obtain ⟨_, _, ao, cap, hc, hh, _⟩ := h
  exact lt_of_heap hh
theorem PAt.tl {w : World} {p tb : Nat} {ts : List Tok} (h : PAt w p tb ts) : tb < w.heap.size := h.1
theorem must_true (v : Value) (w : World) : Calls Tryz.prog 40 #[v, .bool true] w fun e w' => e = .returned (.tuple #[]) ∧ w = w' := by
  go_enter Tryz.func40, Tryz.ntmps40
  go_wp2
  go_end0
  exact ⟨rfl, rfl⟩
theorem must_false (v : Value) (w : World) : Calls Tryz.prog 40 #[v, .bool false] w fun e w' => e = .panicked fault ∧ w = w' := by
  go_enter Tryz.func40, Tryz.ntmps40
  go_wp2
  exact ⟨rfl, rfl, rfl⟩
theorem nextT_cons_no {k : Int} {s : Str} {t : Tok} {r : List Tok} (h : nextT k s (t :: r) = none) : ¬ t.kind = k ∨ (t.kind = k ∧ ¬ t.text = s) := by
  by_cases h1 : t.kind = k
  · by_cases h2 : t.text = s
    · simp [nextT, h1, h2] at h
    · exact .inr ⟨h1, h2⟩
  · exact .inl h1
theorem nextT_cons_yes {k : Int} {s : Str} {ts r : List Tok} (h : nextT k s ts = some r) : ∃ t, ts = t :: r ∧ t.kind = k ∧ t.text = s := by
  cases ts with
  | nil => simp [nextT] at h
  | cons t r' =>
    by_cases h1 : t.kind = k
    · by_cases h2 : t.text = s
      · simp [nextT, h1, h2] at h
        exact ⟨t, by rw [h], h1, h2⟩
      · simp [nextT, h2] at h
    · simp [nextT, h1] at h
theorem nextT_len {k : Int} {s : Str} {ts r : List Tok} (h : nextT k s ts = some r) : r.length + 1 = ts.length := by
  obtain ⟨t, rfl, _⟩ := nextT_cons_yes h
  rfl
theorem tail_at {w : World} {p tb o c : Nat} {r : List Tok} {w' : World} (hb : tb < w.heap.size) (hbp : tb ≠ p) (hr : w.rangeAt tb (o + 3) (tokCells r)) (hc : r.length + 1 ≤ c) (hw : Chg (OneP p) w w')
    (h : w'.heap[p]? = some (.cells #[if c = 1 then .slice (some ⟨tb, o, none⟩) r.length 0 else .slice (some ⟨tb, o + 3, none⟩) r.length (c - 1)] 101 (0, 0))) : PAt w' p tb r := by
  refine ⟨Nat.lt_of_lt_of_le hb hw.size, hbp, ?_⟩
  by_cases h1 : c = 1
  · rw [if_pos h1] at h
    have h0 : r.length = 0 := by omega
    exact ⟨_, 0, by omega, h, _, _, rfl, fun hn => by omega⟩
  · rw [if_neg h1] at h
    exact ⟨_, c - 1, by omega, h, _, _, rfl, fun _ => ⟨tb, o + 3, rfl, Nat.lt_of_lt_of_le hb hw.size, rfl, range_of_heap (hw.keep tb hb hbp) hr⟩⟩
set_option maxRecDepth 100000 in
set_option maxHeartbeats 1000000 in
theorem next_no {k : Int} {s : Str} {p tb : Nat} {ts : List Tok} {w : World} (h : PAt w p tb ts) (hn : nextT k s ts = none) :
    Calls Tryz.prog 72 #[.pointer (some ⟨p, 0, none⟩), .int .i64 k, sv s] w fun e w' => e = .returned (.bool false) ∧ w = w' := by
  obtain ⟨htl, htp, ao, c, hc, hh, ht⟩ := h
  have c0 : w.cell? ⟨p, 0, none⟩ = some (.slice ao ts.length c) := cell_of_row w p 0 _ _ _ hh
  clear hh
  cases ts with
  | nil =>
    clear ht hn
    go_enter Tryz.func72, Tryz.ntmps72
    go_wp2
    go_ret
    exact ⟨rfl, rfl⟩
  | cons t r =>
    obtain ⟨b, o, c', e, hb, rfl, hr, _⟩ := ToksAt.head ht
    simp only [List.length_cons, Value.slice.injEq] at e
    obtain ⟨rfl, _, rfl⟩ := e
    have q0 : w.cell? ⟨b, o, none⟩ = some (.int .i64 t.kind) := hr 0 _ rfl
    have q1 : w.cell? ⟨b, o + 1, none⟩ = some (sv t.text) := hr 1 _ rfl
    have hz : ¬ (r.length : Int) + 1 = 0 := by omega
    have hz2 : ((r.length : Int) + 1 == 0) = false := by simp; omega
    clear hr ht
    rcases nextT_cons_no hn with h1 | ⟨h1, h2⟩
    · clear hn
      go_enter Tryz.func72, Tryz.ntmps72
      go_wp2
      go_ret
      exact ⟨rfl, rfl⟩
    · subst h1
      have h3 : (t.text == s) = false := by simpa using h2
      clear hn
      go_enter Tryz.func72, Tryz.ntmps72
      go_wp2
      go_ret
      exact ⟨rfl, rfl⟩
set_option maxRecDepth 100000 in
set_option maxHeartbeats 1000000 in
theorem next_yes {k : Int} {s : Str} {p tb : Nat} {ts r : List Tok} {w : World} (h : PAt w p tb ts) (hn : nextT k s ts = some r) :
    Calls Tryz.prog 72 #[.pointer (some ⟨p, 0, none⟩), .int .i64 k, sv s] w fun e w' => e = .returned (.bool true) ∧ Hid (PAt w' p tb r ∧ Chg (OneP p) w w') := by
  obtain ⟨t, rfl, rfl, rfl⟩ := nextT_cons_yes hn
  clear hn
  obtain ⟨htl, htp, ao, c, hc, hh, ht⟩ := h
  have c0 : w.cell? ⟨p, 0, none⟩ = some (.slice ao (r.length + 1) c) := cell_of_row w p 0 _ _ _ hh
  have f0 : w.frozen? ⟨p, 0, none⟩ = false := by simp [World.frozen?, hh]
  have HH := Lib.hid hh
  clear hh
  obtain ⟨b, o, c', e, hb, rfl, hr, hr2⟩ := ToksAt.head ht
  simp only [List.length_cons, Value.slice.injEq] at e
  obtain ⟨rfl, _, rfl⟩ := e
  have q0 : w.cell? ⟨b, o, none⟩ = some (.int .i64 t.kind) := hr 0 _ rfl
  have q1 : w.cell? ⟨b, o + 1, none⟩ = some (sv t.text) := hr 1 _ rfl
  have hz : ¬ (r.length : Int) + 1 = 0 := by omega
  have hz2 : ((r.length : Int) + 1 == 0) = false := by simp; omega
  have HR := Lib.hid hr2
  have HBP := Lib.hid htp
  clear hr ht hr2
  simp only [List.length_cons] at hc
  have HX : Hid (∀ v, Chg (OneP p) w (w.setCell ⟨p, 0, none⟩ v)) := Lib.hid fun v => (Chg.refl (OneP p) w).setCell (p := ⟨p, 0, none⟩) (.inl rfl) v
  by_cases h1c : c = 1
  · subst h1c
    obtain rfl : r = [] := List.eq_nil_of_length_eq_zero (by omega)
    go_enter Tryz.func72, Tryz.ntmps72
    go_wp2
    go_ret
    exact ⟨rfl, Lib.hid ⟨tail_at hb HBP.out HR.out hc (HX.out _) (by rw [if_pos rfl]; exact hset_eq (i := 0) HH.out), HX.out _⟩⟩
  · go_enter Tryz.func72, Tryz.ntmps72
    go_wp2
    go_ret
    refine ⟨rfl, Lib.hid ⟨tail_at hb HBP.out HR.out hc (HX.out _) ?_, HX.out _⟩⟩
    rw [if_neg h1c]
    exact hset_eq (i := 0) HH.out
theorem sign_no {s : Str} {p tb : Nat} {ts : List Tok} {w : World} (h : PAt w p tb ts) (hn : nextT 5 s ts = none) : Calls Tryz.prog 39 #[.pointer (some ⟨p, 0, none⟩), sv s] w fun e w' => e = .returned (.bool false) ∧ w = w' := by
  go_enter Tryz.func39, Tryz.ntmps39
  go_wp2_with (go_at_call 72; refine (next_no h hn).mono ?_; rintro e w' ⟨rfl, rfl⟩)
  go_ret
  exact ⟨rfl, rfl⟩
theorem sign_yes {s : Str} {p tb : Nat} {ts r : List Tok} {w : World} (h : PAt w p tb ts) (hn : nextT 5 s ts = some r) : Calls Tryz.prog 39 #[.pointer (some ⟨p, 0, none⟩), sv s] w fun e w' => e = .returned (.bool true) ∧ Hid (PAt w' p tb r ∧ Chg (OneP p) w w') := by
  go_enter Tryz.func39, Tryz.ntmps39
  go_wp2_with (go_at_call 72; refine (next_yes h hn).mono ?_; rintro e w' ⟨rfl, hh⟩)
  go_ret
  exact ⟨rfl, hh⟩
theorem pword_no {s : Str} {p tb : Nat} {ts : List Tok} {w : World} (h : PAt w p tb ts) (hn : nextT 1 s ts = none) : Calls Tryz.prog 102 #[.pointer (some ⟨p, 0, none⟩), sv s] w fun e w' => e = .returned (.bool false) ∧ w = w' := by
  go_enter Tryz.func102, Tryz.ntmps102
  go_wp2_with (go_at_call 72; refine (next_no h hn).mono ?_; rintro e w' ⟨rfl, rfl⟩)
  go_ret
  exact ⟨rfl, rfl⟩
theorem pword_yes {s : Str} {p tb : Nat} {ts r : List Tok} {w : World} (h : PAt w p tb ts) (hn : nextT 1 s ts = some r) : Calls Tryz.prog 102 #[.pointer (some ⟨p, 0, none⟩), sv s] w fun e w' => e = .returned (.bool true) ∧ Hid (PAt w' p tb r ∧ Chg (OneP p) w w') := by
  go_enter Tryz.func102, Tryz.ntmps102
  go_wp2_with (go_at_call 72; refine (next_yes h hn).mono ?_; rintro e w' ⟨rfl, hh⟩)
  go_ret
  exact ⟨rfl, hh⟩
/-- a token of a kind is taken -/
def takeT (k : Int) : List Tok → Option (Tok × List Tok)
  | [] => none
  | t :: r => if t.kind == k then some (t, r) else none
abbrev Tok.val (t : Tok) : Value := .agg #[.int .i64 t.kind, sv t.text, .int .i64 t.num]
theorem takeT_none {k : Int} {ts : List Tok} (h : takeT k ts = none) : ts = [] ∨ ∃ t r, ts = t :: r ∧ ¬ t.kind = k := by
  cases ts with
  | nil => exact .inl rfl
  | cons t r => exact .inr ⟨t, r, rfl, fun e => by simp [takeT, e] at h⟩
theorem takeT_some {k : Int} {ts r : List Tok} {t : Tok} (h : takeT k ts = some (t, r)) : ts = t :: r ∧ t.kind = k := by
  cases ts with
  | nil => simp [takeT] at h
  | cons t' r' =>
    by_cases h1 : t'.kind = k
    · simp [takeT, h1] at h
      obtain ⟨rfl, rfl⟩ := h
      exact ⟨rfl, h1⟩
    · simp [takeT, h1] at h
set_option maxRecDepth 100000 in
set_option maxHeartbeats 1000000 in
theorem take_no {k : Int} {p tb : Nat} {ts : List Tok} {w : World} (h : PAt w p tb ts) (hn : takeT k ts = none) :
    Calls Tryz.prog 71 #[.pointer (some ⟨p, 0, none⟩), .int .i64 k] w fun e w' => e = .panicked fault ∧ Chg NoB w w' := by
  have h := h.quiet ((Chg.refl NoB w).alloc (.cells #[.int .i64 0, .string ⟨#[]⟩, .int .i64 0] 133))
  have hpl := h.lt
  obtain ⟨htl, htp, ao, c, hc, hh, ht⟩ := h
  have c0 : (w.alloc (.cells #[.int .i64 0, .string ⟨#[]⟩, .int .i64 0] 133)).cell? ⟨p, 0, none⟩ = some (.slice ao ts.length c) := cell_of_row _ p 0 _ _ _ hh
  clear hh
  rcases takeT_none hn with rfl | ⟨t, r, rfl, h1⟩
  · clear ht hn
    go_enter Tryz.func71, Tryz.ntmps71
    go_wp2_with (go_at_call 40; refine (must_false _ _).mono ?_; rintro e w' ⟨rfl, rfl⟩)
    exact ⟨rfl, rfl, (Chg.refl _ _).alloc _⟩
  · obtain ⟨b, o, c', e, hb, rfl, hr, _⟩ := ToksAt.head ht
    simp only [List.length_cons, Value.slice.injEq] at e
    obtain ⟨rfl, _, rfl⟩ := e
    have q0 : (w.alloc (.cells #[.int .i64 0, .string ⟨#[]⟩, .int .i64 0] 133)).cell? ⟨b, o, none⟩ = some (.int .i64 t.kind) := hr 0 _ rfl
    have hz2 : (0 : Int) < (r.length : Int) + 1 := by omega
    have h1b : (t.kind == k) = false := by simpa using h1
    clear hr ht hn
    go_enter Tryz.func71, Tryz.ntmps71
    go_wp2_with (go_at_call 40; refine (must_false _ _).mono ?_; rintro e w' ⟨rfl, rfl⟩)
    exact ⟨rfl, rfl, (Chg.refl _ _).alloc _⟩
set_option maxRecDepth 100000 in
set_option maxHeartbeats 1000000 in
theorem take_yes {k : Int} {p tb : Nat} {t : Tok} {ts r : List Tok} {w : World} (h : PAt w p tb ts) (hn : takeT k ts = some (t, r)) :
    Calls Tryz.prog 71 #[.pointer (some ⟨p, 0, none⟩), .int .i64 k] w fun e w' => e = .returned t.val ∧ Hid (PAt w' p tb r ∧ Chg (OneP p) w w') := by
  obtain ⟨rfl, rfl⟩ := takeT_some hn
  clear hn
  obtain ⟨htl, htp, ao, c, hc, hh, ht⟩ := h
  have hpw := lt_of_heap hh
  have HH := Lib.hid hh
  obtain ⟨b, o, c', e, hb, rfl, hr, hr2⟩ := ToksAt.head ht
  simp only [List.length_cons, Value.slice.injEq] at e
  obtain ⟨rfl, _, rfl⟩ := e
  have hal : ∀ x, x < w.heap.size → (w.alloc (.cells #[.int .i64 0, .string ⟨#[]⟩, .int .i64 0] 133)).heap[x]? = w.heap[x]? := fun x hx => hal_old hx
  have c0 : (w.alloc (.cells #[.int .i64 0, .string ⟨#[]⟩, .int .i64 0] 133)).cell? ⟨p, 0, none⟩ = some (.slice (some ⟨b, o, none⟩) (r.length + 1) c) := cell_of_row _ p 0 _ _ _ ((hal p hpw).trans hh)
  have f0 : (w.alloc (.cells #[.int .i64 0, .string ⟨#[]⟩, .int .i64 0] 133)).frozen? ⟨p, 0, none⟩ = false := frozen_of_row _ p 0 _ _ ((hal p hpw).trans hh)
  have q0 : (w.alloc (.cells #[.int .i64 0, .string ⟨#[]⟩, .int .i64 0] 133)).cell? ⟨b, o, none⟩ = some (.int .i64 t.kind) := (cell_of_heap (hal b hb)).trans (hr 0 _ rfl)
  have q1 : (w.alloc (.cells #[.int .i64 0, .string ⟨#[]⟩, .int .i64 0] 133)).cell? ⟨b, o + 1, none⟩ = some (sv t.text) := (cell_of_heap (hal b hb)).trans (hr 1 _ rfl)
  have q2 : (w.alloc (.cells #[.int .i64 0, .string ⟨#[]⟩, .int .i64 0] 133)).cell? ⟨b, o + 2, none⟩ = some (.int .i64 t.num) := (cell_of_heap (hal b hb)).trans (hr 2 _ rfl)
  have hz2 : (0 : Int) < (r.length : Int) + 1 := by omega
  have HR := Lib.hid hr2
  have HBP := Lib.hid htp
  have HB := Lib.hid hb
  clear hr ht hr2 hh hal
  simp only [List.length_cons] at hc
  have HX : Hid (∀ v o1 o2, Chg (OneP p) w (((w.setCell ⟨p, 0, none⟩ v).alloc o1).alloc o2)) := Lib.hid fun v o1 o2 => (((Chg.refl (OneP p) w).setCell (p := ⟨p, 0, none⟩) (.inl rfl) v).alloc _).alloc _
  have HV : Hid (∀ v o1 o2, (((w.setCell ⟨p, 0, none⟩ v).alloc o1).alloc o2).heap[p]? = some (.cells #[v] 101 (0, 0))) := Lib.hid fun v o1 o2 => by
    rw [hal_old (by simp; omega), hal_old (by simpa using hpw)]
    exact hset_eq (i := 0) HH.out
  have HW : Hid (∀ v o1 o2, (((w.setCell ⟨p, 0, none⟩ v).alloc o1).alloc o2).heap[w.heap.size]? = some o1) := Lib.hid fun v o1 o2 => by
    rw [hal_old (by simp), hal_new' (by simp)]
  by_cases h1c : c = 1
  · subst h1c
    obtain rfl : r = [] := List.eq_nil_of_length_eq_zero (by omega)
    go_enter Tryz.func71, Tryz.ntmps71
    go_wp2_with (go_at_call 40; refine (must_true _ _).mono ?_; rintro e w' ⟨rfl, rfl⟩)
    refine bodyPost_ret (v := t.val) (results_big1 (P := Tryz.prog) rfl _ _ w.heap.size [.int .i64 t.kind, sv t.text, .int .i64 t.num] _ rfl (range_block (HW.out _ _ _)) Tryz.underlying133 rfl (by kernel_rfl)) rfl ⟨rfl, Lib.hid ⟨?_, HX.out _ _ _⟩⟩
    exact tail_at HB.out HBP.out HR.out hc (HX.out _ _ _) (by rw [if_pos rfl]; exact HV.out _ _ _)
  · go_enter Tryz.func71, Tryz.ntmps71
    go_wp2_with (go_at_call 40; refine (must_true _ _).mono ?_; rintro e w' ⟨rfl, rfl⟩)
    refine bodyPost_ret (v := t.val) (results_big1 (P := Tryz.prog) rfl _ _ w.heap.size [.int .i64 t.kind, sv t.text, .int .i64 t.num] _ rfl (range_block (HW.out _ _ _)) Tryz.underlying133 rfl (by kernel_rfl)) rfl ⟨rfl, Lib.hid ⟨?_, HX.out _ _ _⟩⟩
    exact tail_at HB.out HBP.out HR.out hc (HX.out _ _ _) (by rw [if_neg h1c]; exact HV.out _ _ _)
theorem pname_no {p tb : Nat} {ts : List Tok} {w : World} (h : PAt w p tb ts) (hn : takeT 2 ts = none) : Calls Tryz.prog 103 #[.pointer (some ⟨p, 0, none⟩)] w fun e w' => e = .panicked fault ∧ Chg NoB w w' := by
  go_enter Tryz.func103, Tryz.ntmps103
  go_wp2_with (go_at_call 71; refine (take_no h hn).mono ?_; rintro e w' ⟨rfl, hh⟩)
  exact ⟨rfl, rfl, hh⟩
theorem field_tok1 (a c : Int) (s : ByteArray) (w : World) : (Instr.field 133 (.agg #[.int .i64 a, .string s, .int .i64 c]) 1).run Tryz.prog w = .ok (.string s) w := by kernel_rfl
attribute [local go_sem ↓] field_tok1 in
theorem pname_yes {p tb : Nat} {t : Tok} {ts r : List Tok} {w : World} (h : PAt w p tb ts) (hn : takeT 2 ts = some (t, r)) : Calls Tryz.prog 103 #[.pointer (some ⟨p, 0, none⟩)] w fun e w' => e = .returned (sv t.text) ∧ Hid (PAt w' p tb r ∧ Chg (OneP p) w w') := by
  go_enter Tryz.func103, Tryz.ntmps103
  go_wp2_with (go_at_call 71; refine (take_yes h hn).mono ?_; rintro e w' ⟨rfl, hh⟩)
  go_ret
  exact ⟨rfl, hh⟩
end Go.Proofs.YtnbckfkdmkbopaaGreatDoor
