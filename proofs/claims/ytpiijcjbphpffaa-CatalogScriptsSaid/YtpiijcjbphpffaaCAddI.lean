/-
  What AddIndex does. No condition beyond each lemma's own.
-/
import Derived.Test.YtpiijcjbphpffaaCIdx
set_option autoImplicit false
namespace Go.Proofs.Ytpiijcjbphpffaa
open Go Go.RowKit
attribute [local go_sem] field_tab0 field_tab1

def Cat.addIR (C : Cat) (n t c : ByteArray) : Int := if nameB n then (if (ifind C.I n).isSome || decide (idxOf (colsOf C.T t) c < 0) then 32 else if 16 ≤ (C.indexes t).length then 20 else 0) else 1
def Cat.addI (C : Cat) (n t c : ByteArray) (h : Bool) : Cat := if C.addIR n t c = 0 then ⟨C.T, C.I ++ [⟨n, t, idxOf (colsOf C.T t) c, h⟩]⟩ else C
theorem addI_nil (n t c : ByteArray) (h : Bool) (w : World) : Calls Try.prog 11 #[.pointer none, .string n, .string t, .string c, .bool h] w fun e w' => e = .returned (.int .i64 2) ∧ Chg (fun _ => False) w w' := by
  go_enter Try.func11, Try.ntmps11
  go_wp2
  go_ret
  exact ⟨rfl, (Chg.refl _ _).alloc _⟩
theorem ifind_isSome {T : List Ix} {k : ByteArray} : (ifind T k).isSome = false ↔ ifind T k = none := by
  cases ifind T k <;> simp
theorem ifind_none {T : List Ix} {k : ByteArray} (h : ifind T k = none) : ∀ t ∈ T, t.name ≠ k := by
  intro t ht e
  have := List.find?_eq_none.1 h t ht
  rw [e] at this
  exact this (beq_self k)
theorem idxOf_lt (cs : List Col) (c : ByteArray) : idxOf cs c < cs.length := by
  unfold idxOf
  cases h : cs.findIdx? (fun d => d.name == c) with
  | none => show (-1 : Int) < _; omega
  | some i =>
    obtain ⟨hi, _⟩ := List.findIdx?_eq_some_iff_getElem.1 h
    show (i : Int) < _
    omega
theorem Cat.ok.addI {C : Cat} (h : C.ok) {n t c : ByteArray} {b : Bool} (h0 : C.addIR n t c = 0) : Cat.ok ⟨C.T, C.I ++ [⟨n, t, idxOf (colsOf C.T t) c, b⟩]⟩ := by
  unfold Cat.addIR at h0
  split at h0
  · rename_i h1
    split at h0
    · omega
    · rename_i h2
      split at h0
      · omega
      · rename_i h3
        simp only [Bool.or_eq_true, decide_eq_true_eq, not_or] at h2
        have h2a : ifind C.I n = none := by
          cases hh : ifind C.I n with
          | none => rfl
          | some x => rw [hh] at h2; simp at h2
        have hi0 : 0 ≤ idxOf (colsOf C.T t) c := by omega
        have hil := idxOf_lt (colsOf C.T t) c
        have hmade : (C.I.filter fun x => x.tab == t).length < 16 := by
          have e : (C.indexes t).length = (uniqOf t (colsOf C.T t)).length + (C.made t).length := by unfold Cat.indexes; rw [List.length_append]
          have e2 : (C.made t).length = (C.I.filter fun x => x.tab == t).length := by unfold Cat.made; exact (byName_perm _).length_eq
          omega
        refine ⟨h.tn, h.tm, h.t16, ?_, ?_, ?_⟩
        · intro x hx
          rcases List.mem_append.1 hx with hx | hx
          · exact h.im x hx
          · simp at hx
            subst hx
            refine ⟨h1, ?_⟩
            show ∃ s, tfind C.T t = some s ∧ _
            cases hf : tfind C.T t with
            | none => unfold colsOf at hi0 hil; rw [hf] at hi0 hil; simp at hi0 hil; omega
            | some s => unfold colsOf at hi0 hil ⊢; rw [hf] at hi0 hil ⊢; exact ⟨s, rfl, hi0, hil⟩
        · show ((C.I ++ [_]).map fun x : Ix => x.name).Nodup
          rw [List.map_append, List.nodup_append]
          refine ⟨h.inn, by simp, fun a ha b hb => ?_⟩
          simp at hb
          subst hb
          obtain ⟨s, hs, rfl⟩ := List.mem_map.1 ha
          exact ifind_none h2a s hs
        · intro m
          show ((C.I ++ [_]).filter fun x : Ix => x.tab == m).length ≤ 16
          rw [List.filter_append, List.length_append]
          have := h.i16 m
          by_cases hm : m = t
          · subst hm
            have h1 := List.length_filter_le (fun x : Ix => x.tab == m) [⟨n, m, idxOf (colsOf C.T m) c, b⟩]
            simp at h1 ⊢
            omega
          · simp [beq_ne (fun e => hm e.symm)]
            exact this
  · omega
set_option maxRecDepth 100000 in
set_option maxHeartbeats 2000000 in
theorem addI_any (r : Nat) (F : Nat → Prop) (C : Cat) (n t cn : ByteArray) (b : Bool) (w : World) (h : CatAt w r F C) (hn : big n) :
    Calls Try.prog 11 #[.pointer (some ⟨r, 0, none⟩), .string n, .string t, .string cn, .bool b] w fun e w' => e = .returned (.int .i64 (C.addIR n t cn)) ∧ CatAt w' r F (C.addI n t cn b) ∧ Chg F w w' := by
  obtain ⟨mt, mi, es, es', c, c', h⟩ := h
  have HH := Lib.hid h
  obtain ⟨W1, hW1⟩ : ∃ W1, W1 = w.alloc (.cells #[.string cn] 9) := ⟨_, rfl⟩
  have x1 : Chg (fun _ => False) w W1 := by subst hW1; exact (Chg.refl _ _).alloc _
  have b1 : W1.heap[w.heap.size]? = some (.cells #[.string cn] 9 (0, 0)) := by subst hW1; exact hal_new
  have HW := Lib.hid hW1
  have h1 := h.quiet x1
  obtain ⟨c0, c1, c2⟩ := h1.cells
  obtain ⟨lo, lc, hl1, hl2⟩ := h1.isT.val t
  have hlt := (hl2 _ _ _ h1.mapT).2
  have hli := h1.isI.at_ok n h1.mapI
  have HCols : Hid (ColsAt W1 F (.slice lo (colsOf C.T t).length lc) (colsOf C.T t)) := Lib.hid hl1
  have hcl := h.ok.cols t
  have X1 := Lib.hid x1; have B1 := Lib.hid b1; have H1 := Lib.hid h1
  have HL2 := Lib.hid hl2
  clear h hl1 hl2 x1 b1 h1 hW1
  have hstay : ∀ (x : Int) (w' : World), C.addIR n t cn = x → x ≠ 0 → Chg (fun _ => False) w w' → Ending.returned (.int .i64 x) = Ending.returned (.int .i64 (C.addIR n t cn)) ∧ CatAt w' r F (C.addI n t cn b) ∧ Chg F w w' := by
    intro x w' hx h0 hc
    refine ⟨by rw [hx], ?_, hc.mono (fun _ h => h.elim)⟩
    unfold Cat.addI
    rw [if_neg (by rw [hx]; exact h0)]
    exact CatAt.quiet ⟨mt, mi, es, es', c, c', HH.out⟩ hc
  have HST := Lib.hid hstay
  clear hstay
  cases hnm : nameB n with
  | false =>
    have HN := Lib.hid hnm
    have HR := Lib.hid (show C.addIR n t cn = 1 by unfold Cat.addIR; rw [hnm]; rfl)
    clear hnm
    go_enter Try.func11, Try.ntmps11
    go_wp2_with fail
    rw [← HW.out]
    refine (name_any n _ hn).mono ?_
    rw [HN.out]
    rintro e w' ⟨rfl, rfl⟩
    go_wp2
    go_ret
    exact HST.out 1 _ HR.out (by omega) X1.out
  | true =>
    have HN := Lib.hid hnm
    clear hnm
    go_enter Try.func11, Try.ntmps11
    go_wp2_with fail
    rw [← HW.out]
    refine (name_any n _ hn).mono ?_
    rw [HN.out]
    rintro e w' ⟨rfl, rfl⟩
    obtain ⟨W2, hW2⟩ : ∃ W2, W2 = W1.alloc (.cells #[.string (ixAt C.I n).name, .string (ixAt C.I n).tab, .int .i64 (ixAt C.I n).col, .bool (ixAt C.I n).hash] 64) := ⟨_, rfl⟩
    have x2 : Chg (fun _ => False) W1 W2 := by subst hW2; exact (Chg.refl _ _).alloc _
    have hlt2 := (HL2.out (W1.alloc (.cells #[.string (ixAt C.I n).name, .string (ixAt C.I n).tab, .int .i64 (ixAt C.I n).col, .bool (ixAt C.I n).hash] 64)) mt c (((Chg.refl (fun _ => False) W1).alloc _).heap H1.out.mapT (fun h => h))).2
    have h2 := H1.out.quiet x2
    obtain ⟨d0, d1, d2⟩ := h2.cells
    have HW2 := Lib.hid hW2
    have H2 := Lib.hid h2; have X2 := Lib.hid (X1.out.trans x2 (fun _ h => h.elim)); have B2 := Lib.hid (x2.heap B1.out (fun h => h))
    have HC2 := Lib.hid (RowAt.quiet HCols.out x2)
    clear x2 h2 hW2 hlt
    go_wp2_with fail
    rw [← HW2.out]
    refine (idxF_any _ F (colsOf C.T t) cn w.heap.size W2 HC2.out (by have := cell_of_row W2 w.heap.size 0 _ _ _ B2.out; exact this) (by omega)).mono ?_
    rintro e w3 ⟨rfl, x3⟩
    have H3 := Lib.hid (H2.out.quiet x3); have X3 := Lib.hid (X2.out.trans x3 (fun _ h => h.elim))
    clear x3 d0 d1 d2
    cases hth : (ifind C.I n).isSome with
    | true =>
      have HR := Lib.hid (show C.addIR n t cn = 32 by unfold Cat.addIR; rw [HN.out, hth]; rfl)
      clear hth
      go_wp2
      go_ret
      exact HST.out 32 _ HR.out (by omega) X3.out
    | false =>
      have HTH := Lib.hid hth
      clear hth
      by_cases hix : idxOf (colsOf C.T t) cn < 0
      · have HR := Lib.hid (show C.addIR n t cn = 32 by unfold Cat.addIR; rw [HN.out, HTH.out, decide_eq_true hix]; rfl)
        go_wp2
        go_ret
        exact HST.out 32 _ HR.out (by omega) X3.out
      · have hup := idxOf_lt (colsOf C.T t) cn
        have HIX := Lib.hid (decide_eq_false hix)
        generalize hgi : idxOf (colsOf C.T t) cn = ix at *
        have HGI := Lib.hid hgi
        clear hgi
        go_wp2_with fail
        refine (indexes_any r F C t w3 ⟨mt, mi, es, es', c, c', H3.out⟩).mono ?_
        rintro e w4 ⟨_, rfl, ⟨ao4, cap4, rfl, _⟩, x4⟩
        have h4 := H3.out.quiet x4
        obtain ⟨e0, e1, e2⟩ := h4.cells
        have hmu := run_mapUpdate (P := Try.prog) w4 (t := 66) (kt := 9) (et := 64) (d := .string) (k := .string n) (v := .agg #[.string n, .string t, .int .i64 ix, .bool b]) Try.underlying66 Try.underlying9 (by trivial) h4.mapI h4.isI.keys
        have H4 := Lib.hid h4; have X4 := Lib.hid (X3.out.trans x4 (fun _ h => h.elim))
        have hlx : (C.indexes t).length ≤ 100 := by
          have e : (C.indexes t).length = (uniqOf t (colsOf C.T t)).length + (C.made t).length := by unfold Cat.indexes; rw [List.length_append]
          have a1 := uniqTo_len t (colsOf C.T t) (colsOf C.T t).length
          have a2 := HH.out.ok.made_len t
          unfold uniqOf at e
          omega
        clear x4 h4
        by_cases h16 : 16 ≤ (C.indexes t).length
        · have HR := Lib.hid (show C.addIR n t cn = 20 by unfold Cat.addIR; rw [HN.out, HTH.out, HGI.out, HIX.out, if_pos h16]; rfl)
          go_wp2
          go_ret
          exact HST.out 20 _ HR.out (by omega) X4.out
        · have HR := Lib.hid (show C.addIR n t cn = 0 by unfold Cat.addIR; rw [HN.out, HTH.out, HGI.out, HIX.out, if_neg h16]; rfl)
          go_wp2
          go_ret
          have hh := H4.out
          refine ⟨by rw [HR.out]; rfl, ?_, (X4.out.mono (fun _ h => h.elim)).setObj (.inl hh.fi) _⟩
          have hC : C.addI n t cn b = ⟨C.T, C.I ++ [⟨n, t, ix, b⟩]⟩ := by unfold Cat.addI; rw [HR.out, if_pos rfl, HGI.out]
          have hok := hh.ok.addI (b := b) HR.out
          rw [HGI.out] at hok
          rw [hC]
          refine ⟨mt, mi, es, _, c, _, ?_, ?_, hobj_eq (lt_of_heap hh.mapI), hh.isT.setObj hh.mapI _, ?_, hh.fr, hh.ft, hh.fi, hh.ne, hok⟩
          · rw [hobj_ne hh.nri.symm]; exact hh.self
          · rw [hobj_ne hh.ne]; exact hh.mapT
          · exact hh.isI.put ⟨n, t, ix, b⟩ (ifind_isSome.1 HTH.out)
end Go.Proofs.Ytpiijcjbphpffaa
