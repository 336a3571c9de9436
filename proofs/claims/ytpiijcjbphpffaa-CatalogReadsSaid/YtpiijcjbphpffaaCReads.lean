/-
  The law of reads, walked: every list of rows is a catalog's, or refused. Condition: the rows are as long as may be read.
-/
import Derived.Test.YtpiijcjbphpffaaCRRead
import Derived.Test.YtpiijcjbphpffaaCRRows
import Derived.Test.YtpiijcjbphpffaaCAlike
import Derived.Test.YtpiijcjbphpffaaCAwake
set_option autoImplicit false
namespace Go.Proofs.Ytpiijcjbphpffaa
open Go Go.RowKit
attribute [local go_sem] field_tab0 field_tab1

theorem rows_short {C : Cat} (h : C.ok) : C.rows.length ≤ 1000 ∧ ∀ row ∈ C.rows, row.length ≤ 1000 := by
  have h16 := h.t16
  have hl := tables_len C
  unfold Cat.rows
  refine ⟨?_, fun row hr => ?_⟩
  · have h1 := fmr_len (f := fun t : Tab => (C.made t.name).map ixRow) (m := 16) (l := C.tables) (fun t _ => by rw [List.length_map]; exact h.made_len t.name)
    rw [List.length_append, List.length_map]
    omega
  · rcases List.mem_append.1 hr with hr | hr
    · obtain ⟨t, ht, rfl⟩ := List.mem_map.1 hr
      have := (mayB_len (h.tm t ((byNameT_perm C.T).mem_iff.1 ht))).2.1
      unfold tabRow
      rw [List.length_append, flatMap_len colVals 4 _ (fun _ _ => rfl)]
      simp only [List.length_cons, List.length_nil]
      omega
    · obtain ⟨t, _, hr⟩ := List.mem_flatMap.1 hr
      obtain ⟨x, _, rfl⟩ := List.mem_map.1 hr
      show (5 : Nat) ≤ 1000
      omega
set_option maxRecDepth 100000 in
set_option maxHeartbeats 2000000 in
theorem reads_any (v : Value) (rows : List (List Val)) (w : World) (h : RowsAt w (fun g => g < w.heap.size) v rows) (hok : RowsOk rows) :
    Calls Try.prog 5 #[v] w fun e w' => e = .returned (.bool true) ∧ Chg (fun _ => False) w w' := by
  have HV := Lib.hid h; have HOK := Lib.hid hok
  have HQ := Lib.hid (rRead_eq rows)
  obtain ⟨us, _, ao, cap, rfl, _⟩ := h
  clear hok
  go_enter Try.func5, Try.ntmps5
  go_wp2_with fail
  refine (awake_any w).mono ?_
  rintro e w1 ⟨rfl, x1⟩
  have X1 := Lib.hid x1
  clear x1
  have hrd := read_any _ rows w1 ((HV.out.mono (G := fun g => g < w1.heap.size) (fun g hg _ => Nat.lt_of_lt_of_le hg X1.out.size)).quiet X1.out) HOK.out
  have hrr := fun w2 (x : Chg (fun _ => False) w w2) => rread_any _ rows w2 ((HV.out.mono (G := fun g => g < w2.heap.size) (fun g hg _ => Nat.lt_of_lt_of_le hg x.size)).quiet x) HOK.out
  rw [HQ.out] at hrr
  cases hc : readC rows with
  | none =>
    rw [hc] at hrd hrr
    have HRR := Lib.hid hrr
    clear hc hrr
    go_wp2_with fail
    refine hrd.mono ?_
    rintro e w2 ⟨rfl, x2⟩
    have X2 := Lib.hid (X1.out.trans x2 (fun _ h => h.elim))
    clear x2 hrd
    go_wp2_with fail
    refine (HRR.out w2 X2.out).mono ?_
    rintro e w3 ⟨rfl, x3⟩
    have X3 := Lib.hid (X2.out.trans x3 (fun _ h => h.elim))
    clear x3
    go_wp2
    go_ret
    exact ⟨rfl, X3.out⟩
  | some C =>
    rw [hc] at hrd hrr
    have HRR := Lib.hid hrr
    clear hc hrr
    go_wp2_with fail
    refine hrd.mono ?_
    rintro e w2 ⟨⟨rc, rfl, h2⟩, x2⟩
    have X2 := Lib.hid (X1.out.trans x2 (fun _ h => h.elim)); have H2 := Lib.hid h2
    clear x2 hrd h2
    go_wp2_with fail
    refine (HRR.out w2 X2.out).mono ?_
    rintro e w3 ⟨⟨rr, vt, vi, K, rfl, h3⟩, x3⟩
    have X3 := Lib.hid (X2.out.trans x3 (fun _ h => h.elim)); have H3 := Lib.hid h3; have H23 := Lib.hid (H2.out.quiet x3)
    have HSH := Lib.hid (rows_short h3.ok)
    clear x3 h3
    go_wp2_with fail
    refine (alike_any rc _ C _ rr _ _ _ w3 H23.out H3.out).mono ?_
    rintro e w4 ⟨rfl, x4⟩
    have X4 := Lib.hid (X3.out.trans x4 (fun _ h => h.elim)); have X34 := Lib.hid x4
    clear x4
    go_wp2_with fail
    refine (rows_any rc _ C w4 (H23.out.quiet X34.out)).mono ?_
    rintro e w5 ⟨v5, rfl, h5, x5⟩
    have X5 := Lib.hid (X4.out.trans x5 (fun _ h => h.elim)); have X45 := Lib.hid x5; have H5 := Lib.hid h5
    obtain ⟨us5, _, ao5, cap5, rfl, _⟩ := h5
    clear x5
    go_wp2_with fail
    refine (rrows_any _ rr _ _ _ C w5 ((H3.out.quiet X34.out).quiet X45.out)).mono ?_
    rintro e w6 ⟨v6, rfl, h6, x6⟩
    have X6 := Lib.hid (X5.out.trans x6 (fun _ h => h.elim)); have X56 := Lib.hid x6; have H6 := Lib.hid h6
    obtain ⟨us6, _, ao6, cap6, rfl, _⟩ := h6
    clear x6
    go_wp2_with fail
    refine (sameRows_any _ _ _ _ C.rows w6 (H5.out.quiet X56.out) H6.out (by have := HSH.out.1; omega) (fun row hr => by have := HSH.out.2 row hr; omega)).mono ?_
    rintro e w7 ⟨rfl, x7⟩
    have X7 := Lib.hid (X6.out.trans x7 (fun _ h => h.elim))
    clear x7
    go_wp2
    go_ret
    exact ⟨rfl, X7.out⟩
end Go.Proofs.Ytpiijcjbphpffaa
