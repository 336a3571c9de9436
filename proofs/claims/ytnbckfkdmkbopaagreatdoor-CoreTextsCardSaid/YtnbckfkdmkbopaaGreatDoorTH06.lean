/-
  The parser's small functions: must, next, sign, word, take, name. No condition beyond each lemma's own.
  The parser's words, literal, node. No condition beyond each lemma's own.
-/
import Derived.Test.YtnbckfkdmkbopaaGreatDoorTH04
import Derived.Test.YtnbckfkdmkbopaaGreatDoorTH05
set_option autoImplicit false
namespace Go.Proofs.YtnbckfkdmkbopaaGreatDoor
open Go Go.RowKit

theorem hal_new' {w : World} {o : Obj} {n : Nat} (h : n = w.heap.size) : (w.alloc o).heap[n]? = some o := by subst h; exact hal_new
abbrev OneP (p : Nat) : Nat → Prop := fun k => k = p
abbrev NotP (p : Nat) : Nat → Prop := fun k => ¬ k = p
abbrev fault : List PanicEntry := [{ v := .iface 97 (.agg #[]), recovered := false }]
/-- a parser ahead of tokens, which lie in block tb -/
def PAt (w : World) (p tb : Nat) (ts : List Tok) : Prop := tb < w.heap.size ∧ tb ≠ p ∧ ∃ ao c, ts.length ≤ c ∧ w.heap[p]? = some (.cells #[.slice ao ts.length c] 101 (0, 0)) ∧ ToksAt w (fun k => k = tb) (.slice ao ts.length c) ts
theorem PAt.chg {w w' : World} {p tb : Nat} {ts : List Tok} {G : Nat → Prop} (h : PAt w p tb ts) (c : Chg G w w') (h1 : ¬ G p) (h2 : ¬ G tb) : PAt w' p tb ts := by
  obtain ⟨hl, hne, ao, cap, hc, hh, ht⟩ := h
  exact ⟨Nat.lt_of_lt_of_le hl c.size, hne, ao, cap, hc, c.heap hh h1, ht.chg c (fun k hk => by subst hk; exact h2)⟩
theorem PAt.quiet {w w' : World} {p tb : Nat} {ts : List Tok} (h : PAt w p tb ts) (c : Chg NoB w w') : PAt w' p tb ts := h.chg c (fun h => h) (fun h => h)
theorem PAt.lt {w : World} {p tb : Nat} {ts : List Tok} (h : PAt w p tb ts) : p < w.heap.size := by
  obtain ⟨_, _, ao, cap, hc, hh, _⟩ := h
  exact lt_of_heap hh
theorem PAt.tl {w : World} {p tb : Nat} {ts : List Tok} (h : PAt w p tb ts) : tb < w.heap.size := h.1
theorem must_true (v : Value) (w : World) : Calls Tryz.prog 40 #[v, .bool true] w fun e w' => e = .returned (.tuple #[]) ∧ w = w' := by
  go_enter Tryz.func40, Tryz.ntmps40
  go_wp2
  go_end0
  exact ⟨rfl, rfl⟩
theorem must_false (v : Value) (w : World) : Calls Tryz.prog 40 #[v, .bool false] w fun e w' => e = .panicked fault ∧ w = w' := by
  go_enter Tryz.func40, Tryz.ntmps40
  go_wp2
  exact ⟨rfl, rfl, rfl⟩
theorem nextT_cons_no {k : Int} {s : Str} {t : Tok} {r : List Tok} (h : nextT k s (t :: r) = none) : ¬ t.kind = k ∨ (t.kind = k ∧ ¬ t.text = s) := by
  by_cases h1 : t.kind = k
  · by_cases h2 : t.text = s
    · simp [nextT, h1, h2] at h
    · exact .inr ⟨h1, h2⟩
  · exact .inl h1
theorem nextT_cons_yes {k : Int} {s : Str} {ts r : List Tok} (h : nextT k s ts = some r) : ∃ t, ts = t :: r ∧ t.kind = k ∧ t.text = s := by
  cases ts with
  | nil => simp [nextT] at h
  | cons t r' =>
    by_cases h1 : t.kind = k
    · by_cases h2 : t.text = s
      · simp [nextT, h1, h2] at h
        exact ⟨t, by rw [h], h1, h2⟩
      · simp [nextT, h2] at h
    · simp [nextT, h1] at h
theorem nextT_len {k : Int} {s : Str} {ts r : List Tok} (h : nextT k s ts = some r) : r.length + 1 = ts.length := by
  obtain ⟨t, rfl, _⟩ := nextT_cons_yes h
  rfl
theorem tail_at {w : World} {p tb o c : Nat} {r : List Tok} {w' : World} (hb : tb < w.heap.size) (hbp : tb ≠ p) (hr : w.rangeAt tb (o + 3) (tokCells r)) (hc : r.length + 1 ≤ c) (hw : Chg (OneP p) w w')
    (h : w'.heap[p]? = some (.cells #[if c = 1 then .slice (some ⟨tb, o, none⟩) r.length 0 else .slice (some ⟨tb, o + 3, none⟩) r.length (c - 1)] 101 (0, 0))) : PAt w' p tb r := by
  refine ⟨Nat.lt_of_lt_of_le hb hw.size, hbp, ?_⟩
  by_cases h1 : c = 1
  · rw [if_pos h1] at h
    have h0 : r.length = 0 := by omega
    exact ⟨_, 0, by omega, h, _, _, rfl, fun hn => by omega⟩
  · rw [if_neg h1] at h
    exact ⟨_, c - 1, by omega, h, _, _, rfl, fun _ => ⟨tb, o + 3, rfl, Nat.lt_of_lt_of_le hb hw.size, rfl, range_of_heap (hw.keep tb hb hbp) hr⟩⟩
set_option maxRecDepth 100000 in
set_option maxHeartbeats 1000000 in
theorem next_no {k : Int} {s : Str} {p tb : Nat} {ts : List Tok} {w : World} (h : PAt w p tb ts) (hn : nextT k s ts = none) :
    Calls Tryz.prog 72 #[.pointer (some ⟨p, 0, none⟩), .int .i64 k, sv s] w fun e w' => e = .returned (.bool false) ∧ w = w' := by
  obtain ⟨htl, htp, ao, c, hc, hh, ht⟩ := h
  have c0 : w.cell? ⟨p, 0, none⟩ = some (.slice ao ts.length c) := cell_of_row w p 0 _ _ _ hh
  clear hh
  cases ts with
  | nil =>
    clear ht hn
    go_enter Tryz.func72, Tryz.ntmps72
    go_wp2
    go_ret
    exact ⟨rfl, rfl⟩
  | cons t r =>
    obtain ⟨b, o, c', e, hb, rfl, hr, _⟩ := ToksAt.head ht
    simp only [List.length_cons, Value.slice.injEq] at e
    obtain ⟨rfl, _, rfl⟩ := e
    have q0 : w.cell? ⟨b, o, none⟩ = some (.int .i64 t.kind) := hr 0 _ rfl
    have q1 : w.cell? ⟨b, o + 1, none⟩ = some (sv t.text) := hr 1 _ rfl
    have hz : ¬ (r.length : Int) + 1 = 0 := by omega
    have hz2 : ((r.length : Int) + 1 == 0) = false := by simp; omega
    clear hr ht
    rcases nextT_cons_no hn with h1 | ⟨h1, h2⟩
    · clear hn
      go_enter Tryz.func72, Tryz.ntmps72
      go_wp2
      go_ret
      exact ⟨rfl, rfl⟩
    · subst h1
      have h3 : (t.text == s) = false := by simpa using h2
      clear hn
      go_enter Tryz.func72, Tryz.ntmps72
      go_wp2
      go_ret
      exact ⟨rfl, rfl⟩
set_option maxRecDepth 100000 in
set_option maxHeartbeats 1000000 in
theorem next_yes {k : Int} {s : Str} {p tb : Nat} {ts r : List Tok} {w : World} (h : PAt w p tb ts) (hn : nextT k s ts = some r) :
    Calls Tryz.prog 72 #[.pointer (some ⟨p, 0, none⟩), .int .i64 k, sv s] w fun e w' => e = .returned (.bool true) ∧ Hid (PAt w' p tb r ∧ Chg (OneP p) w w') := by
  obtain ⟨t, rfl, rfl, rfl⟩ := nextT_cons_yes hn
  clear hn
  obtain ⟨htl, htp, ao, c, hc, hh, ht⟩ := h
  have c0 : w.cell? ⟨p, 0, none⟩ = some (.slice ao (r.length + 1) c) := cell_of_row w p 0 _ _ _ hh
  have f0 : w.frozen? ⟨p, 0, none⟩ = false := by simp [World.frozen?, hh]
  have HH := Lib.hid hh
  clear hh
  obtain ⟨b, o, c', e, hb, rfl, hr, hr2⟩ := ToksAt.head ht
  simp only [List.length_cons, Value.slice.injEq] at e
  obtain ⟨rfl, _, rfl⟩ := e
  have q0 : w.cell? ⟨b, o, none⟩ = some (.int .i64 t.kind) := hr 0 _ rfl
  have q1 : w.cell? ⟨b, o + 1, none⟩ = some (sv t.text) := hr 1 _ rfl
  have hz : ¬ (r.length : Int) + 1 = 0 := by omega
  have hz2 : ((r.length : Int) + 1 == 0) = false := by simp; omega
  have HR := Lib.hid hr2
  have HBP := Lib.hid htp
  clear hr ht hr2
  simp only [List.length_cons] at hc
  have HX : Hid (∀ v, Chg (OneP p) w (w.setCell ⟨p, 0, none⟩ v)) := Lib.hid fun v => (Chg.refl (OneP p) w).setCell (p := ⟨p, 0, none⟩) (.inl rfl) v
  by_cases h1c : c = 1
  · subst h1c
    obtain rfl : r = [] := List.eq_nil_of_length_eq_zero (by omega)
    go_enter Tryz.func72, Tryz.ntmps72
    go_wp2
    go_ret
    exact ⟨rfl, Lib.hid ⟨tail_at hb HBP.out HR.out hc (HX.out _) (by rw [if_pos rfl]; exact hset_eq (i := 0) HH.out), HX.out _⟩⟩
  · go_enter Tryz.func72, Tryz.ntmps72
    go_wp2
    go_ret
    refine ⟨rfl, Lib.hid ⟨tail_at hb HBP.out HR.out hc (HX.out _) ?_, HX.out _⟩⟩
    rw [if_neg h1c]
    exact hset_eq (i := 0) HH.out
theorem sign_no {s : Str} {p tb : Nat} {ts : List Tok} {w : World} (h : PAt w p tb ts) (hn : nextT 5 s ts = none) : Calls Tryz.prog 39 #[.pointer (some ⟨p, 0, none⟩), sv s] w fun e w' => e = .returned (.bool false) ∧ w = w' := by
  go_enter Tryz.func39, Tryz.ntmps39
  go_wp2_with (go_at_call 72; refine (next_no h hn).mono ?_; rintro e w' ⟨rfl, rfl⟩)
  go_ret
  exact ⟨rfl, rfl⟩
theorem sign_yes {s : Str} {p tb : Nat} {ts r : List Tok} {w : World} (h : PAt w p tb ts) (hn : nextT 5 s ts = some r) : Calls Tryz.prog 39 #[.pointer (some ⟨p, 0, none⟩), sv s] w fun e w' => e = .returned (.bool true) ∧ Hid (PAt w' p tb r ∧ Chg (OneP p) w w') := by
  go_enter Tryz.func39, Tryz.ntmps39
  go_wp2_with (go_at_call 72; refine (next_yes h hn).mono ?_; rintro e w' ⟨rfl, hh⟩)
  go_ret
  exact ⟨rfl, hh⟩
theorem pword_no {s : Str} {p tb : Nat} {ts : List Tok} {w : World} (h : PAt w p tb ts) (hn : nextT 1 s ts = none) : Calls Tryz.prog 102 #[.pointer (some ⟨p, 0, none⟩), sv s] w fun e w' => e = .returned (.bool false) ∧ w = w' := by
  go_enter Tryz.func102, Tryz.ntmps102
  go_wp2_with (go_at_call 72; refine (next_no h hn).mono ?_; rintro e w' ⟨rfl, rfl⟩)
  go_ret
  exact ⟨rfl, rfl⟩
theorem pword_yes {s : Str} {p tb : Nat} {ts r : List Tok} {w : World} (h : PAt w p tb ts) (hn : nextT 1 s ts = some r) : Calls Tryz.prog 102 #[.pointer (some ⟨p, 0, none⟩), sv s] w fun e w' => e = .returned (.bool true) ∧ Hid (PAt w' p tb r ∧ Chg (OneP p) w w') := by
  go_enter Tryz.func102, Tryz.ntmps102
  go_wp2_with (go_at_call 72; refine (next_yes h hn).mono ?_; rintro e w' ⟨rfl, hh⟩)
  go_ret
  exact ⟨rfl, hh⟩
/-- a token of a kind is taken -/
def takeT (k : Int) : List Tok → Option (Tok × List Tok)
  | [] => none
  | t :: r => if t.kind == k then some (t, r) else none
abbrev Tok.val (t : Tok) : Value := .agg #[.int .i64 t.kind, sv t.text, .int .i64 t.num]
theorem takeT_none {k : Int} {ts : List Tok} (h : takeT k ts = none) : ts = [] ∨ ∃ t r, ts = t :: r ∧ ¬ t.kind = k := by
  cases ts with
  | nil => exact .inl rfl
  | cons t r => exact .inr ⟨t, r, rfl, fun e => by simp [takeT, e] at h⟩
theorem takeT_some {k : Int} {ts r : List Tok} {t : Tok} (h : takeT k ts = some (t, r)) : ts = t :: r ∧ t.kind = k := by
  cases ts with
  | nil => simp [takeT] at h
  | cons t' r' =>
    by_cases h1 : t'.kind = k
    · simp [takeT, h1] at h
      obtain ⟨rfl, rfl⟩ := h
      exact ⟨rfl, h1⟩
    · simp [takeT, h1] at h
set_option maxRecDepth 100000 in
set_option maxHeartbeats 1000000 in
theorem take_no {k : Int} {p tb : Nat} {ts : List Tok} {w : World} (h : PAt w p tb ts) (hn : takeT k ts = none) :
    Calls Tryz.prog 71 #[.pointer (some ⟨p, 0, none⟩), .int .i64 k] w fun e w' => e = .panicked fault ∧ Chg NoB w w' := by
  have h := h.quiet ((Chg.refl NoB w).alloc (.cells #[.int .i64 0, .string ⟨#[]⟩, .int .i64 0] 133))
  have hpl := h.lt
  obtain ⟨htl, htp, ao, c, hc, hh, ht⟩ := h
  have c0 : (w.alloc (.cells #[.int .i64 0, .string ⟨#[]⟩, .int .i64 0] 133)).cell? ⟨p, 0, none⟩ = some (.slice ao ts.length c) := cell_of_row _ p 0 _ _ _ hh
  clear hh
  rcases takeT_none hn with rfl | ⟨t, r, rfl, h1⟩
  · clear ht hn
    go_enter Tryz.func71, Tryz.ntmps71
    go_wp2_with (go_at_call 40; refine (must_false _ _).mono ?_; rintro e w' ⟨rfl, rfl⟩)
    exact ⟨rfl, rfl, (Chg.refl _ _).alloc _⟩
  · obtain ⟨b, o, c', e, hb, rfl, hr, _⟩ := ToksAt.head ht
    simp only [List.length_cons, Value.slice.injEq] at e
    obtain ⟨rfl, _, rfl⟩ := e
    have q0 : (w.alloc (.cells #[.int .i64 0, .string ⟨#[]⟩, .int .i64 0] 133)).cell? ⟨b, o, none⟩ = some (.int .i64 t.kind) := hr 0 _ rfl
    have hz2 : (0 : Int) < (r.length : Int) + 1 := by omega
    have h1b : (t.kind == k) = false := by simpa using h1
    clear hr ht hn
    go_enter Tryz.func71, Tryz.ntmps71
    go_wp2_with (go_at_call 40; refine (must_false _ _).mono ?_; rintro e w' ⟨rfl, rfl⟩)
    exact ⟨rfl, rfl, (Chg.refl _ _).alloc _⟩
set_option maxRecDepth 100000 in
set_option maxHeartbeats 1000000 in
theorem take_yes {k : Int} {p tb : Nat} {t : Tok} {ts r : List Tok} {w : World} (h : PAt w p tb ts) (hn : takeT k ts = some (t, r)) :
    Calls Tryz.prog 71 #[.pointer (some ⟨p, 0, none⟩), .int .i64 k] w fun e w' => e = .returned t.val ∧ Hid (PAt w' p tb r ∧ Chg (OneP p) w w') := by
  obtain ⟨rfl, rfl⟩ := takeT_some hn
  clear hn
  obtain ⟨htl, htp, ao, c, hc, hh, ht⟩ := h
  have hpw := lt_of_heap hh
  have HH := Lib.hid hh
  obtain ⟨b, o, c', e, hb, rfl, hr, hr2⟩ := ToksAt.head ht
  simp only [List.length_cons, Value.slice.injEq] at e
  obtain ⟨rfl, _, rfl⟩ := e
  have hal : ∀ x, x < w.heap.size → (w.alloc (.cells #[.int .i64 0, .string ⟨#[]⟩, .int .i64 0] 133)).heap[x]? = w.heap[x]? := fun x hx => hal_old hx
  have c0 : (w.alloc (.cells #[.int .i64 0, .string ⟨#[]⟩, .int .i64 0] 133)).cell? ⟨p, 0, none⟩ = some (.slice (some ⟨b, o, none⟩) (r.length + 1) c) := cell_of_row _ p 0 _ _ _ ((hal p hpw).trans hh)
  have f0 : (w.alloc (.cells #[.int .i64 0, .string ⟨#[]⟩, .int .i64 0] 133)).frozen? ⟨p, 0, none⟩ = false := frozen_of_row _ p 0 _ _ ((hal p hpw).trans hh)
  have q0 : (w.alloc (.cells #[.int .i64 0, .string ⟨#[]⟩, .int .i64 0] 133)).cell? ⟨b, o, none⟩ = some (.int .i64 t.kind) := (cell_of_heap (hal b hb)).trans (hr 0 _ rfl)
  have q1 : (w.alloc (.cells #[.int .i64 0, .string ⟨#[]⟩, .int .i64 0] 133)).cell? ⟨b, o + 1, none⟩ = some (sv t.text) := (cell_of_heap (hal b hb)).trans (hr 1 _ rfl)
  have q2 : (w.alloc (.cells #[.int .i64 0, .string ⟨#[]⟩, .int .i64 0] 133)).cell? ⟨b, o + 2, none⟩ = some (.int .i64 t.num) := (cell_of_heap (hal b hb)).trans (hr 2 _ rfl)
  have hz2 : (0 : Int) < (r.length : Int) + 1 := by omega
  have HR := Lib.hid hr2
  have HBP := Lib.hid htp
  have HB := Lib.hid hb
  clear hr ht hr2 hh hal
  simp only [List.length_cons] at hc
  have HX : Hid (∀ v o1 o2, Chg (OneP p) w (((w.setCell ⟨p, 0, none⟩ v).alloc o1).alloc o2)) := Lib.hid fun v o1 o2 => (((Chg.refl (OneP p) w).setCell (p := ⟨p, 0, none⟩) (.inl rfl) v).alloc _).alloc _
  have HV : Hid (∀ v o1 o2, (((w.setCell ⟨p, 0, none⟩ v).alloc o1).alloc o2).heap[p]? = some (.cells #[v] 101 (0, 0))) := Lib.hid fun v o1 o2 => by
    rw [hal_old (by simp; omega), hal_old (by simpa using hpw)]
    exact hset_eq (i := 0) HH.out
  have HW : Hid (∀ v o1 o2, (((w.setCell ⟨p, 0, none⟩ v).alloc o1).alloc o2).heap[w.heap.size]? = some o1) := Lib.hid fun v o1 o2 => by
    rw [hal_old (by simp), hal_new' (by simp)]
  by_cases h1c : c = 1
  · subst h1c
    obtain rfl : r = [] := List.eq_nil_of_length_eq_zero (by omega)
    go_enter Tryz.func71, Tryz.ntmps71
    go_wp2_with (go_at_call 40; refine (must_true _ _).mono ?_; rintro e w' ⟨rfl, rfl⟩)
    refine bodyPost_ret (v := t.val) (results_big1 (P := Tryz.prog) rfl _ _ w.heap.size [.int .i64 t.kind, sv t.text, .int .i64 t.num] _ rfl (range_block (HW.out _ _ _)) Tryz.underlying133 rfl (by kernel_rfl)) rfl ⟨rfl, Lib.hid ⟨?_, HX.out _ _ _⟩⟩
    exact tail_at HB.out HBP.out HR.out hc (HX.out _ _ _) (by rw [if_pos rfl]; exact HV.out _ _ _)
  · go_enter Tryz.func71, Tryz.ntmps71
    go_wp2_with (go_at_call 40; refine (must_true _ _).mono ?_; rintro e w' ⟨rfl, rfl⟩)
    refine bodyPost_ret (v := t.val) (results_big1 (P := Tryz.prog) rfl _ _ w.heap.size [.int .i64 t.kind, sv t.text, .int .i64 t.num] _ rfl (range_block (HW.out _ _ _)) Tryz.underlying133 rfl (by kernel_rfl)) rfl ⟨rfl, Lib.hid ⟨?_, HX.out _ _ _⟩⟩
    exact tail_at HB.out HBP.out HR.out hc (HX.out _ _ _) (by rw [if_neg h1c]; exact HV.out _ _ _)
theorem pname_no {p tb : Nat} {ts : List Tok} {w : World} (h : PAt w p tb ts) (hn : takeT 2 ts = none) : Calls Tryz.prog 103 #[.pointer (some ⟨p, 0, none⟩)] w fun e w' => e = .panicked fault ∧ Chg NoB w w' := by
  go_enter Tryz.func103, Tryz.ntmps103
  go_wp2_with (go_at_call 71; refine (take_no h hn).mono ?_; rintro e w' ⟨rfl, hh⟩)
  exact ⟨rfl, rfl, hh⟩
theorem field_tok1 (a c : Int) (s : ByteArray) (w : World) : (Instr.field 133 (.agg #[.int .i64 a, .string s, .int .i64 c]) 1).run Tryz.prog w = .ok (.string s) w := by kernel_rfl
attribute [local go_sem ↓] field_tok1 in
theorem pname_yes {p tb : Nat} {t : Tok} {ts r : List Tok} {w : World} (h : PAt w p tb ts) (hn : takeT 2 ts = some (t, r)) : Calls Tryz.prog 103 #[.pointer (some ⟨p, 0, none⟩)] w fun e w' => e = .returned (sv t.text) ∧ Hid (PAt w' p tb r ∧ Chg (OneP p) w w') := by
  go_enter Tryz.func103, Tryz.ntmps103
  go_wp2_with (go_at_call 71; refine (take_yes h hn).mono ?_; rintro e w' ⟨rfl, hh⟩)
  go_ret
  exact ⟨rfl, hh⟩
end Go.Proofs.YtnbckfkdmkbopaaGreatDoor

set_option autoImplicit false
namespace Go.Proofs.YtnbckfkdmkbopaaGreatDoor
open Go Go.RowKit

theorem fields_one {s : Str} (h : s = sNULL ∨ s = sFROM) (w : World) (hg : Glob w) : Calls Tryz.prog 146 #[sv s] w fun e w' => e = .returned (.slice (some ⟨w.heap.size, 0, none⟩) 1 1) ∧ w' = w.alloc (.cells #[sv s] 9) := by
  have hf : Lib.fields s = [s] := by rcases h with rfl | rfl <;> decide
  have hl : s.length = 4 := by rcases h with rfl | rfl <;> rfl
  have ha : ∀ (j : Nat) b, (ByteArray.mk s.toArray).data.toList[j]? = some b → b.toNat < 128 := by
    intro j b hb
    have hb : s[j]? = some b := by simpa using hb
    have hm := List.mem_of_getElem? hb
    rcases h with rfl | rfl
    · simp [sNULL] at hm; rcases hm with rfl | rfl | rfl | rfl <;> decide
    · simp [sFROM] at hm; rcases hm with rfl | rfl | rfl | rfl <;> decide
  refine (Any.strings_Fields_core lays157 (by kernel_rfl) ⟨s.toArray⟩ w (by show Array.size _ < _; simp; omega) ha hg.sp).mono ?_
  rintro e w' ⟨rfl, rfl⟩
  rw [show (ByteArray.mk s.toArray).data.toList = s from by simp, hf]
  exact ⟨rfl, rfl⟩
set_option maxRecDepth 100000 in
set_option maxHeartbeats 1000000 in
theorem words_yes {s : Str} (hs : s = sNULL ∨ s = sFROM) {p tb : Nat} {ts r : List Tok} {w : World} (h : PAt w p tb ts) (hg : Glob w) (hn : nextT 1 s ts = some r) :
    Calls Tryz.prog 106 #[.pointer (some ⟨p, 0, none⟩), sv s] w fun e w' => e = .returned (.tuple #[]) ∧ Hid (PAt w' p tb r ∧ Chg (OneP p) w w') := by
  have hf := fields_one hs w hg
  have H := Lib.hid (h.quiet ((Chg.refl NoB w).alloc (.cells #[sv s] 9)))
  have HN := Lib.hid hn
  clear hs h hn hg
  go_enter Tryz.func106, Tryz.ntmps106
  go_wp2_with (go_at_call 146; refine hf.mono ?_; rintro e w' ⟨rfl, rfl⟩)
  clear hf
  go_loopw [9] (fun i wr => (i = .int .i64 0 ∧ wr = w.alloc (.cells #[sv s] 9)) ∨ (i = .int .i64 1 ∧ Hid (PAt wr p tb r ∧ Chg (OneP p) w wr))) (fun i _ => (1 - intOf i).toNat)
  case atStart => exact .inl ⟨rfl, rfl⟩
  case round =>
    rcases hrel with ⟨rfl, rfl⟩ | ⟨rfl, HH⟩
    · go_wp2_with (first | (go_at_call 102; refine (pword_yes H.out HN.out).mono ?_; rintro e w3 ⟨rfl, hh⟩) | (go_at_call 40; refine (must_true _ _).mono ?_; rintro e w' ⟨rfl, rfl⟩))
      exact ⟨.inr ⟨rfl, Lib.hid ⟨hh.out.1, ((Chg.refl (OneP p) w).alloc _).trans hh.out.2 (fun _ h => .inl h)⟩⟩, by decide⟩
    · go_wp2
      go_end0
      exact ⟨rfl, HH⟩
set_option maxRecDepth 100000 in
set_option maxHeartbeats 1000000 in
theorem words_no {s : Str} (hs : s = sNULL ∨ s = sFROM) {p tb : Nat} {ts : List Tok} {w : World} (h : PAt w p tb ts) (hg : Glob w) (hn : nextT 1 s ts = none) :
    Calls Tryz.prog 106 #[.pointer (some ⟨p, 0, none⟩), sv s] w fun e w' => e = .panicked fault ∧ Chg NoB w w' := by
  have hf := fields_one hs w hg
  have H := Lib.hid (h.quiet ((Chg.refl NoB w).alloc (.cells #[sv s] 9)))
  have HN := Lib.hid hn
  clear hs h hn hg
  go_enter Tryz.func106, Tryz.ntmps106
  go_wp2_with (go_at_call 146; refine hf.mono ?_; rintro e w' ⟨rfl, rfl⟩)
  clear hf
  go_loopw [9] (fun i wr => i = .int .i64 0 ∧ wr = w.alloc (.cells #[sv s] 9)) (fun i _ => (1 - intOf i).toNat)
  case atStart => exact ⟨rfl, rfl⟩
  case round =>
    obtain ⟨rfl, rfl⟩ := hrel
    go_wp2_with (first | (go_at_call 102; refine (pword_no H.out HN.out).mono ?_; rintro e w3 ⟨rfl, rfl⟩) | (go_at_call 40; refine (must_false _ _).mono ?_; rintro e w' ⟨rfl, rfl⟩))
    exact ⟨rfl, rfl, (Chg.refl _ _).alloc _⟩
theorem ex_ret {fn : Func} {Q : Ending → World → Prop} {tmps : Array Value} {w : World} {b q : Nat} (E : ExF) (hres : fn.results = #[.cell q 29]) (hq : tmps.getD q undef = .pointer (some ⟨b, 0, none⟩))
    (hb : w.heap[b]? = some E.obj) (hQ : Q (.returned E.val) w) : bodyPost Tryz.prog fn Q Exit.ret ⟨tmps, []⟩ w :=
  bodyPost_ret (v := E.val) (results_big1 (P := Tryz.prog) hres tmps w b E.cells _ hq (range_block hb) Tryz.underlying29 rfl (by kernel_rfl)) rfl hQ
theorem literal_any (v : Val) (w : World) : Calls Tryz.prog 184 #[v.val] w fun e w' => e = .returned (ExF.val ⟨1, v.kind, v.num, v.str, [], [], 0, none, 0, 0⟩) ∧ Chg NoB w w' := by
  go_enter Tryz.func184, Tryz.ntmps184
  go_wp2
  exact ex_ret ⟨1, v.kind, v.num, v.str, [], [], 0, none, 0, 0⟩ rfl rfl (hal_new' (by simp)) ⟨rfl, ((Chg.refl _ _).alloc _).alloc _⟩
theorem node_any (k : Int) (ao : Option Addr) (m c : Nat) (w : World) : Calls Tryz.prog 166 #[.int .i64 k, .slice ao m c] w fun e w' => e = .returned (ExF.val ⟨k, 0, 0, [], [], [], 0, ao, m, c⟩) ∧ Chg NoB w w' := by
  go_enter Tryz.func166, Tryz.ntmps166
  go_wp2
  exact ex_ret ⟨k, 0, 0, [], [], [], 0, ao, m, c⟩ rfl rfl (hal_new' (by simp)) ⟨rfl, (Chg.refl _ _).alloc _⟩
/-- what a part of the parser comes to -/
def POut (r : Option (Ex × List Tok)) (p tb : Nat) (w : World) (e : Ending) (w' : World) : Prop :=
  Chg (OneP p) w w' ∧ match r with
  | none => e = .panicked fault
  | some (x, ts) => ∃ E, e = .returned (ExF.val E) ∧ ExAt w' (fun k => w.heap.size ≤ k) x E ∧ PAt w' p tb ts
theorem POut.no {r : Option (Ex × List Tok)} {p tb : Nat} {w w' : World} (hr : r = none) (h : Chg (OneP p) w w') : POut r p tb w (.panicked fault) w' := by
  subst hr; exact ⟨h, rfl⟩
theorem POut.yes {r : Option (Ex × List Tok)} {p tb : Nat} {w w' : World} {x : Ex} {ts : List Tok} {E : ExF} (hr : r = some (x, ts)) (h : Chg (OneP p) w w') (hx : ExAt w' (fun k => w.heap.size ≤ k) x E) (hp : PAt w' p tb ts) : POut r p tb w (.returned E.val) w' := by
  subst hr; exact ⟨h, E, rfl, hx, hp⟩
/-- the cells of an expression in a variable -/
def ExCells (w : World) (b : Nat) (E : ExF) : Prop := w.cell? ⟨b, 0, none⟩ = some (.int .i64 E.k) ∧ w.cell? ⟨b, 1, none⟩ = some (.int .i64 E.vk) ∧ w.cell? ⟨b, 2, none⟩ = some (.int .i64 E.vn) ∧ w.cell? ⟨b, 3, none⟩ = some (sv E.vs) ∧
  w.cell? ⟨b, 4, none⟩ = some (sv E.t) ∧ w.cell? ⟨b, 5, none⟩ = some (sv E.n) ∧ w.cell? ⟨b, 6, none⟩ = some (.int .i64 E.s) ∧ w.cell? ⟨b, 7, none⟩ = some (.slice E.ao E.m E.c)
theorem ExCells.of {w : World} {b : Nat} {E : ExF} (h : w.heap[b]? = some E.obj) : ExCells w b E :=
  ⟨cell_of_row w b 0 _ _ _ h, cell_of_row w b 1 _ _ _ h, cell_of_row w b 2 _ _ _ h, cell_of_row w b 3 _ _ _ h, cell_of_row w b 4 _ _ _ h, cell_of_row w b 5 _ _ _ h, cell_of_row w b 6 _ _ _ h, cell_of_row w b 7 _ _ _ h⟩
theorem ex_set {w : World} {b : Nat} {E : ExF} (h : w.heap[b]? = some E.obj) (E2 : ExF) :
    ((((((((w.setCell ⟨b, 0, none⟩ (.int .i64 E2.k)).setCell ⟨b, 1, none⟩ (.int .i64 E2.vk)).setCell ⟨b, 2, none⟩ (.int .i64 E2.vn)).setCell ⟨b, 3, none⟩ (sv E2.vs)).setCell ⟨b, 4, none⟩ (sv E2.t)).setCell ⟨b, 5, none⟩ (sv E2.n)).setCell ⟨b, 6, none⟩ (.int .i64 E2.s)).setCell ⟨b, 7, none⟩ (.slice E2.ao E2.m E2.c)).heap[b]? = some E2.obj := by
  have h1 : (w.setCell ⟨b, 0, none⟩ (.int .i64 E2.k)).heap[b]? = some (.cells #[.int .i64 E2.k, .int .i64 E.vk, .int .i64 E.vn, sv E.vs, sv E.t, sv E.n, .int .i64 E.s, .slice E.ao E.m E.c] 29 (0, 0)) := hset_eq (i := 0) (v := .int .i64 E2.k) h
  have h2 : ((w.setCell ⟨b, 0, none⟩ (.int .i64 E2.k)).setCell ⟨b, 1, none⟩ (.int .i64 E2.vk)).heap[b]? = some (.cells #[.int .i64 E2.k, .int .i64 E2.vk, .int .i64 E.vn, sv E.vs, sv E.t, sv E.n, .int .i64 E.s, .slice E.ao E.m E.c] 29 (0, 0)) := hset_eq (i := 1) (v := .int .i64 E2.vk) h1
  have h3 : (((w.setCell ⟨b, 0, none⟩ (.int .i64 E2.k)).setCell ⟨b, 1, none⟩ (.int .i64 E2.vk)).setCell ⟨b, 2, none⟩ (.int .i64 E2.vn)).heap[b]? = some (.cells #[.int .i64 E2.k, .int .i64 E2.vk, .int .i64 E2.vn, sv E.vs, sv E.t, sv E.n, .int .i64 E.s, .slice E.ao E.m E.c] 29 (0, 0)) := hset_eq (i := 2) (v := .int .i64 E2.vn) h2
  have h4 : ((((w.setCell ⟨b, 0, none⟩ (.int .i64 E2.k)).setCell ⟨b, 1, none⟩ (.int .i64 E2.vk)).setCell ⟨b, 2, none⟩ (.int .i64 E2.vn)).setCell ⟨b, 3, none⟩ (sv E2.vs)).heap[b]? = some (.cells #[.int .i64 E2.k, .int .i64 E2.vk, .int .i64 E2.vn, sv E2.vs, sv E.t, sv E.n, .int .i64 E.s, .slice E.ao E.m E.c] 29 (0, 0)) := hset_eq (i := 3) (v := sv E2.vs) h3
  have h5 : (((((w.setCell ⟨b, 0, none⟩ (.int .i64 E2.k)).setCell ⟨b, 1, none⟩ (.int .i64 E2.vk)).setCell ⟨b, 2, none⟩ (.int .i64 E2.vn)).setCell ⟨b, 3, none⟩ (sv E2.vs)).setCell ⟨b, 4, none⟩ (sv E2.t)).heap[b]? = some (.cells #[.int .i64 E2.k, .int .i64 E2.vk, .int .i64 E2.vn, sv E2.vs, sv E2.t, sv E.n, .int .i64 E.s, .slice E.ao E.m E.c] 29 (0, 0)) := hset_eq (i := 4) (v := sv E2.t) h4
  have h6 : ((((((w.setCell ⟨b, 0, none⟩ (.int .i64 E2.k)).setCell ⟨b, 1, none⟩ (.int .i64 E2.vk)).setCell ⟨b, 2, none⟩ (.int .i64 E2.vn)).setCell ⟨b, 3, none⟩ (sv E2.vs)).setCell ⟨b, 4, none⟩ (sv E2.t)).setCell ⟨b, 5, none⟩ (sv E2.n)).heap[b]? = some (.cells #[.int .i64 E2.k, .int .i64 E2.vk, .int .i64 E2.vn, sv E2.vs, sv E2.t, sv E2.n, .int .i64 E.s, .slice E.ao E.m E.c] 29 (0, 0)) := hset_eq (i := 5) (v := sv E2.n) h5
  have h7 : (((((((w.setCell ⟨b, 0, none⟩ (.int .i64 E2.k)).setCell ⟨b, 1, none⟩ (.int .i64 E2.vk)).setCell ⟨b, 2, none⟩ (.int .i64 E2.vn)).setCell ⟨b, 3, none⟩ (sv E2.vs)).setCell ⟨b, 4, none⟩ (sv E2.t)).setCell ⟨b, 5, none⟩ (sv E2.n)).setCell ⟨b, 6, none⟩ (.int .i64 E2.s)).heap[b]? = some (.cells #[.int .i64 E2.k, .int .i64 E2.vk, .int .i64 E2.vn, sv E2.vs, sv E2.t, sv E2.n, .int .i64 E2.s, .slice E.ao E.m E.c] 29 (0, 0)) := hset_eq (i := 6) (v := .int .i64 E2.s) h6
  have h8 : ((((((((w.setCell ⟨b, 0, none⟩ (.int .i64 E2.k)).setCell ⟨b, 1, none⟩ (.int .i64 E2.vk)).setCell ⟨b, 2, none⟩ (.int .i64 E2.vn)).setCell ⟨b, 3, none⟩ (sv E2.vs)).setCell ⟨b, 4, none⟩ (sv E2.t)).setCell ⟨b, 5, none⟩ (sv E2.n)).setCell ⟨b, 6, none⟩ (.int .i64 E2.s)).setCell ⟨b, 7, none⟩ (.slice E2.ao E2.m E2.c)).heap[b]? = some (.cells #[.int .i64 E2.k, .int .i64 E2.vk, .int .i64 E2.vn, sv E2.vs, sv E2.t, sv E2.n, .int .i64 E2.s, .slice E2.ao E2.m E2.c] 29 (0, 0)) := hset_eq (i := 7) (v := .slice E2.ao E2.m E2.c) h7
  exact h8
end Go.Proofs.YtnbckfkdmkbopaaGreatDoor
