/-
  What the document's Read does. Condition: the rows are as long as may be read.
-/
import Derived.Test.YtpiijcjbphpffaaCRTab
import Derived.Test.YtpiijcjbphpffaaCRAddI
import Derived.Test.YtpiijcjbphpffaaCReadW
set_option autoImplicit false
namespace Go.Proofs.Ytpiijcjbphpffaa
open Go Go.RowKit
attribute [local go_sem] field_val0 field_val1 field_val2 field_tab0 field_tab1

theorem rTabStep_cons (C : Cat) (h : Val) (l : List Val) : rTabStep C (h :: l) = if isB h 2 = true then (if h.num = 1 then (match rTab (h :: l) with
    | some t => if C.addTR t = 0 then some (C.addT t) else none
    | none => none) else some C) else none := rfl
def good5 (n t c f : Val) : Bool := isB n 3 && isB t 3 && isB c 1 && isB f 2
theorem rIxStep_len {C : Cat} {row : List Val} (h : ¬ row.length = 5) : rIxStep C row = none := by
  match row, h with
  | [], _ => rfl
  | [_], _ => rfl
  | [_, _], _ => rfl
  | [_, _, _], _ => rfl
  | [_, _, _, _], _ => rfl
  | [_, _, _, _, _], h => exact absurd rfl h
  | _ :: _ :: _ :: _ :: _ :: _ :: _, _ => rfl
theorem rIxStep_five {C : Cat} {row : List Val} {n t c f : Val} (h : row.length = 5) (hn : row[1]? = some n) (ht : row[2]? = some t) (hc : row[3]? = some c) (hf : row[4]? = some f) : rIxStep C row =
    if isB n 3 = true ∧ isB t 3 = true ∧ isB c 1 = true ∧ isB f 2 = true ∧ (tfind C.T t.str).isSome = true ∧ 0 ≤ c.num ∧ c.num < (colsOf C.T t.str).length ∧ C.addIR n.str t.str ((colsOf C.T t.str)[c.num.toNat]?.getD ⟨⟨#[]⟩, 0, false, false⟩).name = 0 then
      some (C.addI n.str t.str ((colsOf C.T t.str)[c.num.toNat]?.getD ⟨⟨#[]⟩, 0, false, false⟩).name (f.num == 1)) else none := by
  match row, h with
  | [a0, a1, a2, a3, a4], _ =>
    simp at hn ht hc hf
    subst hn; subst ht; subst hc; subst hf
    rfl
theorem rIxStep_bad {C : Cat} {row : List Val} {n t c f : Val} (h : row.length = 5) (hn : row[1]? = some n) (ht : row[2]? = some t) (hc : row[3]? = some c) (hf : row[4]? = some f) (hg : good5 n t c f = false) : rIxStep C row = none := by
  rw [rIxStep_five h hn ht hc hf]
  refine if_neg (fun hh => ?_)
  unfold good5 at hg
  rw [hh.1, hh.2.1, hh.2.2.1, hh.2.2.2.1] at hg
  cases hg
theorem rCols_big (n : Nat) : ∀ l : List Val, l.length = n → (∀ v ∈ l, big v.str) → ∀ cs, rCols l = some cs → ∀ c ∈ cs, big c.name := by
  induction n using Nat.strongRecOn with
  | ind n ih =>
    intro l hn hb cs h
    match l, hn, h with
    | [], hn, h => simp only [rCols, Option.some.injEq] at h; subst h; simp
    | [_], hn, h => simp [rCols] at h
    | [_, _], hn, h => simp [rCols] at h
    | [_, _, _], hn, h => simp [rCols] at h
    | a :: b :: c :: d :: l, hn, h =>
      unfold rCols at h
      by_cases hh : isB a 3 = true ∧ isB b 1 = true ∧ isB c 2 = true ∧ isB d 2 = true ∧ 1 ≤ b.num ∧ b.num ≤ 3
      · rw [if_pos hh] at h
        obtain ⟨ds, hd, rfl⟩ := Option.map_eq_some_iff.1 h
        intro x hx
        rcases List.mem_cons.1 hx with rfl | hx
        · exact hb a (by simp)
        · exact ih l.length (by simp at hn; omega) l rfl (fun v hv => hb v (by simp [hv])) ds hd x hx
      · rw [if_neg hh] at h; cases h
theorem rTab_big {row : List Val} (hb : ∀ v ∈ row, big v.str) {t : Tab} (h : rTab row = some t) : big t.name ∧ (∀ c ∈ t.cols, big c.name) ∧ t.cols.length ≤ row.length := by
  match row, hb, h with
  | [], hb, h => cases h
  | [_], hb, h => cases h
  | a :: n :: l, hb, h =>
    rw [rTab_two] at h
    by_cases hc : (l.length + 2) % 4 = 2 ∧ isB n 3 = true
    · rw [if_pos hc] at h
      obtain ⟨cs, hcs, rfl⟩ := Option.map_eq_some_iff.1 h
      have := rCols_len _ l rfl cs hcs
      exact ⟨hb n (by simp), rCols_big _ l rfl (fun v hv => hb v (by simp [hv])) cs hcs, by simp only [List.length_cons]; omega⟩
    · rw [if_neg hc] at h; cases h
theorem rRead_no1 {rows : List (List Val)} {k : Nat} (h : foldO rTabStep Cat.empty (rows.take k) = none) : rRead rows = none := by
  unfold rRead
  rw [foldO_none rTabStep h]
theorem rRead_no2 {rows : List (List Val)} {k : Nat} {C : Cat} (h0 : foldO rTabStep Cat.empty rows = some C) (h : foldO rIxStep' C (rows.take k) = none) : rRead rows = none := by
  unfold rRead
  rw [h0]
  exact foldO_none rIxStep' h
def RReadPost (w : World) (o : Option Cat) (e : Ending) (w' : World) : Prop := (match o with
  | some C => ∃ r vt vi K, e = .returned (.tuple #[.pointer (some ⟨r, 0, none⟩), .int .i64 0]) ∧ RAt w' w.heap.size r K vt vi C
  | none => e = .returned (.tuple #[.pointer none, .int .i64 6])) ∧ Chg (fun _ => False) w w'
theorem quiet_of {F : Nat → Prop} {w w1 w2 : World} (h : Chg (fun _ => False) w w1) (c : Chg F w1 w2) (hF : ∀ g, F g → w.heap.size ≤ g) : Chg (fun _ => False) w w2 :=
  ((h.mono (G := fun g => w.heap.size ≤ g) (fun _ h => h.elim)).trans c (fun g h => .inl (hF g h))).mono (fun _ h => .inr h)
theorem rcat_new (w : World) : RAt (w.alloc (.cells #[.slice none 0 0, .slice none 0 0] 58)) w.heap.size w.heap.size (fun _ => False) (.slice none 0 0) (.slice none 0 0) Cat.empty :=
  ⟨hal_new, Nat.le_refl _, ⟨[], Own.nil _ _ _ _, rfl, fun i t u ht _ => by simp [Cat.empty] at ht⟩, Own.nil _ _ _ _, by simp [Value.ownBlock], by simp [Value.ownBlock], fun g hg => by simp [Value.ownBlock] at hg, fun g hg => hg.elim, fun g hg => hg.elim, Cat.empty_ok⟩
set_option maxRecDepth 100000 in
set_option maxHeartbeats 2000000 in
theorem rread_any (v : Value) (rows : List (List Val)) (w : World) (h : RowsAt w (fun g => g < w.heap.size) v rows) (hok : RowsOk rows) :
    Calls Try.prog 16 #[v] w (RReadPost w (rRead rows)) := by
  obtain ⟨us, hus, ao, cap, rfl, hp⟩ := h
  have HU := Lib.hid hus
  have HV : Hid (RowAt w (fun g => g < w.heap.size) (.slice ao rows.length cap) rows.length us) := Lib.hid ⟨ao, cap, rfl, hp⟩
  have HOK := Lib.hid hok
  have hlen := hok.len
  have HR := Lib.hid (rfl : rRead rows = rRead rows)
  clear hus hp hok
  go_enter Try.func16, Try.ntmps16
  go_wp2
  obtain ⟨r, hr⟩ : ∃ r, r = w.heap.size := ⟨_, rfl⟩
  rw [← hr]
  have H0 : Hid (RAt (w.alloc (.cells #[.slice none 0 0, .slice none 0 0] 58)) w.heap.size r (fun _ => False) (.slice none 0 0) (.slice none 0 0) Cat.empty) := Lib.hid (by rw [hr]; exact rcat_new w)
  have HRR := Lib.hid hr
  clear hr
  go_loopw [5] (fun s wr => ∃ (k : Nat) (C : Cat) (vt vi : Value) (K : Nat → Prop), k ≤ rows.length ∧ s = .int .i64 k ∧ Hid (foldO rTabStep Cat.empty (rows.take k) = some C) ∧ Hid (RAt wr w.heap.size r K vt vi C) ∧ Hid (Chg (fun _ => False) w wr)) (fun s _ => rows.length - (intOf s).toNat)
  case atStart => exact ⟨0, Cat.empty, _, _, _, Nat.zero_le _, rfl, Lib.hid rfl, H0, Lib.hid ((Chg.refl _ _).alloc _)⟩
  case round =>
    obtain ⟨k, C, vt, vi, K, hk, rfl, HS, HC, HX⟩ := hrel
    obtain ⟨wo, rfl⟩ : ∃ wo : World, wo = wr := ⟨_, rfl⟩
    by_cases hlt : k < rows.length
    ·
     as_aux_lemma =>
      obtain ⟨row, hrow⟩ : ∃ row, rows[k]? = some row := ⟨_, List.getElem?_eq_getElem hlt⟩
      obtain ⟨u, hu⟩ : ∃ u, us[k]? = some u := ⟨_, List.getElem?_eq_getElem (by rw [HU.out.1]; exact hlt)⟩
      obtain ⟨⟨a2, k2, rfl, hp2⟩, hcap⟩ := HU.out.2 k row u hrow hu
      have hq := RowAt.quiet HV.out HX.out
      obtain ⟨a3, k3, he3, hp3⟩ := hq
      simp only [Value.slice.injEq] at he3
      obtain ⟨rfl, _, rfl⟩ := he3
      obtain ⟨b3, o3, rfl, hb3, _, hr3⟩ := hp3 (by omega)
      have hcell := hr3 k _ hu
      have HVR : Hid (ValsAt w (fun g => g < w.heap.size) (.slice a2 row.length k2) row) := Lib.hid ⟨a2, k2, rfl, hp2⟩
      have HROW := Lib.hid hrow
      have hrl := (HOK.out.each row (List.mem_of_getElem? hrow)).1
      have HRB := Lib.hid (HOK.out.each row (List.mem_of_getElem? hrow)).2
      have HST := Lib.hid (foldO_succ rTabStep hrow HS.out)
      have hwo : w.heap.size ≤ wo.heap.size := HX.out.size
      clear hp2 hp3 hr3 hrow hu hcap
      by_cases h0 : row.length = 0
      · have HN : Hid (rRead rows = none) := Lib.hid (rRead_no1 (k := k + 1) (by rw [HST.out, List.eq_nil_of_length_eq_zero h0]; rfl))
        go_wp2
        go_ret2
        rw [HN.out]
        exact ⟨rfl, HX.out⟩
      · obtain ⟨hd, hhd⟩ : ∃ x, row[0]? = some x := ⟨_, List.getElem?_eq_getElem (by omega)⟩
        obtain ⟨b2, o2, rfl, hb2, _, p0, p1, p2⟩ := ValsAt.val (RowAt.quiet HVR.out HX.out) hhd
        simp only [Nat.zero_mul, Nat.add_zero] at p0 p1 p2
        have hpos : 0 < row.length := by omega
        obtain ⟨tl, htl⟩ : ∃ tl, row = hd :: tl := by
          cases row with
          | nil => simp at hpos
          | cons x l => simp at hhd; subst hhd; exact ⟨l, rfl⟩
        have HTL := Lib.hid htl
        have HP := Lib.hid (⟨p0, p1, p2⟩ : _ ∧ _ ∧ _); have HCE := Lib.hid hcell
        clear htl hhd
        cases hi : isB hd 2 with
        | false =>
          have HI := Lib.hid hi
          have HN : Hid (rRead rows = none) := Lib.hid (rRead_no1 (k := k + 1) (by rw [HST.out, HTL.out]; simp [rTabStep, hi]))
          clear hi
          go_wp2_with fail
          refine (is_any hd 2 _ (by omega)).mono ?_
          rw [HI.out]
          rintro e w3 ⟨rfl, x3⟩
          have HX3 := Lib.hid (HX.out.trans x3 (fun _ h => h.elim))
          clear x3
          go_wp2
          go_ret2
          rw [HN.out]
          exact ⟨rfl, HX3.out⟩
        | true =>
          have HI := Lib.hid hi
          clear hi
          go_wp2_with fail
          refine (is_any hd 2 _ (by omega)).mono ?_
          rw [HI.out]
          rintro e w3 ⟨rfl, x3⟩
          have HX3 := Lib.hid (HX.out.trans x3 (fun _ h => h.elim)); have X3 := Lib.hid x3
          have p1 := (cell_of_heap (x3.keep b2 hb2 (fun h => h))).trans HP.out.2.1
          have hcell := (cell_of_heap (x3.keep b3 hb3 (fun h => h))).trans HCE.out
          have HC3 := Lib.hid (HC.out.quiet x3)
          clear x3 p0 p2
          by_cases h1 : hd.num = 1
          ·
           as_aux_lemma =>
            have HTS : Hid (rTabStep C row = match rTab row with
              | some t => if C.addTR t = 0 then some (C.addT t) else none
              | none => none) := Lib.hid (by rw [HTL.out, rTabStep_cons, if_pos HI.out, if_pos h1])
            have h1' : (hd.num == 1) = true := by simpa using h1
            clear h1
            go_wp2_with fail
            refine (rtable_any _ _ row w3 (RowAt.quiet HVR.out HX3.out) hrl).mono ?_
            rintro e w4 ⟨nm, ta, tl', tc, rfl, x4, ht⟩
            have HX4 := Lib.hid (HX3.out.trans x4 (fun _ h => h.elim)); have HT := Lib.hid ht
            have HC4 := Lib.hid (HC3.out.quiet x4)
            have hw4 : w.heap.size ≤ w4.heap.size := HX4.out.size
            clear x4 ht p1 hcell h1'
            cases hrt : rTab row with
            | none =>
              have HN : Hid (rRead rows = none) := Lib.hid (rRead_no1 (k := k + 1) (by rw [HST.out, HTS.out, hrt]))
              clear hrt
              go_wp2
              go_ret2
              rw [HN.out]
              exact ⟨rfl, HX4.out.alloc _⟩
            | some t =>
              obtain ⟨rfl, hcols⟩ := HT.out t hrt
              obtain ⟨tb1, tb2, tb3⟩ := rTab_big HRB.out hrt
              have hcl : tl' = t.cols.length := by
                obtain ⟨_, _, hcf, _⟩ := hcols
                simp only [Value.slice.injEq] at hcf
                exact hcf.2.1
              subst hcl
              have HCO := Lib.hid hcols
              have HTS2 : Hid (rTabStep C row = if C.addTR t = 0 then some (C.addT t) else none) := Lib.hid (by rw [HTS.out, hrt])
              clear hrt hcols HT HTS
              go_wp2_with fail
              refine (raddT_any w.heap.size r K _ vt vi C t _ (w4.alloc (.cells #[.string t.name, .slice ta t.cols.length tc] 27)) (HC4.out.quiet ((Chg.refl _ _).alloc _)) (RowAt.quiet HCO.out ((Chg.refl _ _).alloc _)) (by omega) tb1 tb2 (by simp; omega)).mono ?_
              rintro e w5 ⟨rfl, vt', K', h5, x5, _, _⟩
              have HC5 := Lib.hid h5
              have HX5 := Lib.hid (quiet_of (HX4.out.alloc (.cells #[.string t.name, .slice ta t.cols.length tc] 27)) x5 (fun g hg => (HC4.out.rf g hg).1))
              clear h5 x5
              by_cases hadd : C.addTR t = 0
              · have HSS : Hid (foldO rTabStep Cat.empty (rows.take (k + 1)) = some (C.addT t)) := Lib.hid (by rw [HST.out, HTS2.out, if_pos hadd])
                rw [hadd]
                clear hadd
                go_wp2
                go_roundw
                case rel => exact ⟨k + 1, C.addT t, vt', vi, K', by omega, by go_num, HSS, HC5, HX5⟩
                case measure => simp [intOf]; omega
              · have HN : Hid (rRead rows = none) := Lib.hid (rRead_no1 (k := k + 1) (by rw [HST.out, HTS2.out, if_neg hadd]))
                have hne : (C.addTR t != 0) = true := by simpa using hadd
                clear hadd
                go_wp2
                go_ret2
                rw [HN.out]
                exact ⟨rfl, HX5.out⟩
          · have HSS : Hid (foldO rTabStep Cat.empty (rows.take (k + 1)) = some C) := Lib.hid (by rw [HST.out, HTL.out, rTabStep_cons, if_pos HI.out, if_neg h1])
            have h1' : (hd.num == 1) = false := by simpa using h1
            clear h1
            go_wp2
            go_roundw
            case rel => exact ⟨k + 1, C, vt, vi, K, by omega, by go_num, HSS, HC3, HX3⟩
            case measure => simp [intOf]; omega
    · have HF : Hid (foldO rTabStep Cat.empty rows = some C) := Lib.hid (by
        have := HS.out
        rw [show k = rows.length by omega, List.take_length] at this
        exact this)
      have HNE := Lib.hid (tabs_full rows Cat.empty C HF.out)
      go_wp2
      obtain ⟨C0, hC0⟩ : ∃ C0, C0 = C := ⟨_, rfl⟩
      have HF0 : Hid (foldO rTabStep Cat.empty rows = some C0) := Lib.hid (by rw [hC0]; exact HF.out)
      have HRD : Hid (rRead rows = foldO rIxStep' C0 rows) := Lib.hid (by unfold rRead; rw [HF0.out])
      have HC0 := Lib.hid hC0
      clear hC0
      go_loopw [8] (fun s wr => ∃ (k : Nat) (C : Cat) (vt vi : Value) (K : Nat → Prop), k ≤ rows.length ∧ s = .int .i64 k ∧ Hid (foldO rIxStep' C0 (rows.take k) = some C) ∧ Hid (RAt wr w.heap.size r K vt vi C) ∧ Hid (Chg (fun _ => False) w wr)) (fun s _ => rows.length - (intOf s).toNat)
      case atStart => exact ⟨0, C, vt, vi, K, Nat.zero_le _, rfl, Lib.hid (by rw [HC0.out]; rfl), HC, HX⟩
      case round =>
        clear HS HC HX HF HC0
        obtain ⟨k, C, vt, vi, K, hk, rfl, HS, HC, HX⟩ := hrel
        obtain ⟨wo, rfl⟩ : ∃ wo : World, wo = wr := ⟨_, rfl⟩
        by_cases hlt : k < rows.length
        ·
         as_aux_lemma =>
          obtain ⟨row, hrow⟩ : ∃ row, rows[k]? = some row := ⟨_, List.getElem?_eq_getElem hlt⟩
          obtain ⟨u, hu⟩ : ∃ u, us[k]? = some u := ⟨_, List.getElem?_eq_getElem (by rw [HU.out.1]; exact hlt)⟩
          obtain ⟨⟨a2, k2, rfl, hp2⟩, hcap⟩ := HU.out.2 k row u hrow hu
          have hq := RowAt.quiet HV.out HX.out
          obtain ⟨a3, k3, he3, hp3⟩ := hq
          simp only [Value.slice.injEq] at he3
          obtain ⟨rfl, _, rfl⟩ := he3
          obtain ⟨b3, o3, rfl, hb3, _, hr3⟩ := hp3 (by omega)
          have hcell := hr3 k _ hu
          have HVR : Hid (ValsAt w (fun g => g < w.heap.size) (.slice a2 row.length k2) row) := Lib.hid ⟨a2, k2, rfl, hp2⟩
          have hrl := (HOK.out.each row (List.mem_of_getElem? hrow)).1
          have HRB := Lib.hid (HOK.out.each row (List.mem_of_getElem? hrow)).2
          have HST := Lib.hid (foldO_succ rIxStep' hrow HS.out)
          have hwo : w.heap.size ≤ wo.heap.size := HX.out.size
          have hpos : 0 < row.length := by
            have := HNE.out row (List.mem_of_getElem? hrow)
            cases row with
            | nil => exact absurd rfl this
            | cons x l => simp
          clear hp2 hp3 hr3 hrow hu hcap
          obtain ⟨hd, hhd⟩ : ∃ x, row[0]? = some x := ⟨_, List.getElem?_eq_getElem (by omega)⟩
          obtain ⟨b2, o2, rfl, hb2, hb2w, p0, p1, p2⟩ := ValsAt.val (RowAt.quiet HVR.out HX.out) hhd
          simp only [Nat.zero_mul, Nat.add_zero] at p0 p1 p2
          have HIT : Hid (isTab row = (hd.num == 1)) := Lib.hid (by
            cases row with
            | nil => simp at hpos
            | cons x l => simp at hhd; subst hhd; rfl)
          clear hhd p0 p2
          by_cases h1 : hd.num = 1
          · have HSS : Hid (foldO rIxStep' C0 (rows.take (k + 1)) = some C) := Lib.hid (by rw [HST.out]; unfold rIxStep'; rw [HIT.out, if_pos (by simpa using h1)])
            have h1' : (hd.num == 1) = true := by simpa using h1
            clear h1
            go_wp2
            go_roundw
            case rel => exact ⟨k + 1, C, vt, vi, K, by omega, by go_num, HSS, HC, HX⟩
            case measure => simp [intOf]; omega
          · have HST2 : Hid (foldO rIxStep' C0 (rows.take (k + 1)) = rIxStep C row) := Lib.hid (by rw [HST.out]; unfold rIxStep'; rw [HIT.out, if_neg (by simpa using h1)])
            have h1' : (hd.num == 1) = false := by simpa using h1
            clear h1
            by_cases h5 : row.length = 5
            ·
             as_aux_lemma =>
              obtain ⟨nv, hn⟩ : ∃ x, row[1]? = some x := ⟨_, List.getElem?_eq_getElem (by omega)⟩
              obtain ⟨tv, ht⟩ : ∃ x, row[2]? = some x := ⟨_, List.getElem?_eq_getElem (by omega)⟩
              obtain ⟨cv, hc⟩ : ∃ x, row[3]? = some x := ⟨_, List.getElem?_eq_getElem (by omega)⟩
              obtain ⟨fv, hf⟩ : ∃ x, row[4]? = some x := ⟨_, List.getElem?_eq_getElem (by omega)⟩
              have hcl : ∀ (j : Nat) (x : Val), row[j]? = some x → ∀ W, Chg (fun _ => False) wo W → W.cell? ⟨b2, o2 + j * 3, none⟩ = some (.int .i64 x.kind) ∧ W.cell? ⟨b2, o2 + j * 3 + 1, none⟩ = some (.int .i64 x.num) ∧ W.cell? ⟨b2, o2 + j * 3 + 2, none⟩ = some (.string x.str) := fun j x hx W hW => by
                obtain ⟨b', o', he, _, _, q0, q1, q2⟩ := ValsAt.val (RowAt.quiet HVR.out (HX.out.trans hW (fun _ h => h.elim))) hx
                simp only [Option.some.injEq, Addr.mk.injEq] at he
                obtain ⟨rfl, rfl, _⟩ := he
                exact ⟨q0, q1, q2⟩
              have PN := Lib.hid (hcl 1 nv hn); have PT := Lib.hid (hcl 2 tv ht); have PC := Lib.hid (hcl 3 cv hc); have PF := Lib.hid (hcl 4 fv hf)
              simp only [Nat.one_mul, Nat.reduceMul] at PN PT PC PF
              have HBAD := Lib.hid (fun (C : Cat) => rIxStep_bad (C := C) h5 hn ht hc hf)
              have HFIVE := Lib.hid (rIxStep_five (C := C) h5 hn ht hc hf)
              have HNB := Lib.hid (HRB.out nv (List.mem_of_getElem? hn))
              have h5' : ((row.length : Int) != 5) = false := by simp; omega
              have hr1 : 1 < row.length := by omega
              have hr2 : 2 < row.length := by omega
              have hr3 : 3 < row.length := by omega
              have hr4 : 4 < row.length := by omega
              clear hcl hn ht hc hf h5
              go_upto_region 16 with (fail)
              go_cut [104] (fun s104 wx => s104 = .bool (!good5 nv tv cv fv) ∧ Chg (fun _ => False) wo wx)
              case first =>
               as_aux_lemma =>
                clear p1 hcell h1'
                obtain ⟨a0, a1, a2⟩ := PN.out wo (Chg.refl _ _)
                cases g0 : isB nv 3 with
                | false =>
                  have HG := Lib.hid (show good5 nv tv cv fv = false by simp [good5, g0])
                  have G0 := Lib.hid g0
                  clear g0
                  go_wp2_with fail
                  refine (is_any nv 3 _ (by omega)).mono ?_
                  rw [G0.out]
                  rintro e w5 ⟨rfl, x⟩
                  have X0 := Lib.hid (x)
                  clear x
                  go_wp2_with fail
                  go_meet
                  exact ⟨by rw [HG.out]; rfl, X0.out⟩
                | true =>
                  have G0 := Lib.hid g0
                  clear g0
                  go_wp2_with fail
                  refine (is_any nv 3 _ (by omega)).mono ?_
                  rw [G0.out]
                  rintro e w5 ⟨rfl, x⟩
                  have X0 := Lib.hid (x)
                  clear x a0 a1 a2
                  obtain ⟨a0, a1, a2⟩ := PT.out w5 X0.out
                  cases g1 : isB tv 3 with
                  | false =>
                    have HG := Lib.hid (show good5 nv tv cv fv = false by simp [good5, g1])
                    have G1 := Lib.hid g1
                    clear g1
                    go_wp2_with fail
                    refine (is_any tv 3 _ (by omega)).mono ?_
                    rw [G1.out]
                    rintro e w6 ⟨rfl, x⟩
                    have X1 := Lib.hid (X0.out.trans x (fun _ h => h.elim))
                    clear x
                    go_wp2_with fail
                    go_meet
                    exact ⟨by rw [HG.out]; rfl, X1.out⟩
                  | true =>
                    have G1 := Lib.hid g1
                    clear g1
                    go_wp2_with fail
                    refine (is_any tv 3 _ (by omega)).mono ?_
                    rw [G1.out]
                    rintro e w6 ⟨rfl, x⟩
                    have X1 := Lib.hid (X0.out.trans x (fun _ h => h.elim))
                    clear x a0 a1 a2
                    obtain ⟨a0, a1, a2⟩ := PC.out w6 X1.out
                    cases g2 : isB cv 1 with
                    | false =>
                      have HG := Lib.hid (show good5 nv tv cv fv = false by simp [good5, g2])
                      have G2 := Lib.hid g2
                      clear g2
                      go_wp2_with fail
                      refine (is_any cv 1 _ (by omega)).mono ?_
                      rw [G2.out]
                      rintro e w7 ⟨rfl, x⟩
                      have X2 := Lib.hid (X1.out.trans x (fun _ h => h.elim))
                      clear x
                      go_wp2_with fail
                      go_meet
                      exact ⟨by rw [HG.out]; rfl, X2.out⟩
                    | true =>
                      have G2 := Lib.hid g2
                      clear g2
                      go_wp2_with fail
                      refine (is_any cv 1 _ (by omega)).mono ?_
                      rw [G2.out]
                      rintro e w7 ⟨rfl, x⟩
                      have X2 := Lib.hid (X1.out.trans x (fun _ h => h.elim))
                      clear x a0 a1 a2
                      obtain ⟨a0, a1, a2⟩ := PF.out w7 X2.out
                      cases g3 : isB fv 2 with
                      | false =>
                        have HG := Lib.hid (show good5 nv tv cv fv = false by simp [good5, g3])
                        have G3 := Lib.hid g3
                        clear g3
                        go_wp2_with fail
                        refine (is_any fv 2 _ (by omega)).mono ?_
                        rw [G3.out]
                        rintro e w8 ⟨rfl, x⟩
                        have X3 := Lib.hid (X2.out.trans x (fun _ h => h.elim))
                        clear x
                        go_wp2_with fail
                        go_meet
                        exact ⟨by rw [HG.out]; rfl, X3.out⟩
                      | true =>
                        have G3 := Lib.hid g3
                        clear g3
                        go_wp2_with fail
                        refine (is_any fv 2 _ (by omega)).mono ?_
                        rw [G3.out]
                        rintro e w8 ⟨rfl, x⟩
                        have X3 := Lib.hid (X2.out.trans x (fun _ h => h.elim))
                        clear x a0 a1 a2
                        have HG := Lib.hid (show good5 nv tv cv fv = true by simp [good5, G0.out, G1.out, G2.out, G3.out])
                        go_wp2_with fail
                        go_meet
                        exact ⟨by rw [HG.out]; rfl, X3.out⟩
              case rest =>
               as_aux_lemma =>
                obtain ⟨rfl, hx⟩ := hcut
                have HXC := Lib.hid (HX.out.trans hx (fun _ h => h.elim)); have HX1 := Lib.hid hx
                have HCC := Lib.hid (HC.out.quiet hx)
                clear p1 hcell h1'
                cases hg : good5 nv tv cv fv with
                | false =>
                  have HN : Hid (rRead rows = none) := Lib.hid (rRead_no2 HF0.out (k := k + 1) (by rw [HST2.out, HBAD.out C hg]))
                  clear hg hx
                  go_wp2
                  go_ret2
                  rw [HN.out]
                  exact ⟨rfl, HXC.out⟩
                | true =>
                  have HSTP : Hid (rIxStep C row = if (tfind C.T tv.str).isSome = true ∧ 0 ≤ cv.num ∧ cv.num < (colsOf C.T tv.str).length ∧ C.addIR nv.str tv.str ((colsOf C.T tv.str)[cv.num.toNat]?.getD ⟨⟨#[]⟩, 0, false, false⟩).name = 0 then some (C.addI nv.str tv.str ((colsOf C.T tv.str)[cv.num.toNat]?.getD ⟨⟨#[]⟩, 0, false, false⟩).name (fv.num == 1)) else none) := Lib.hid (by
                    rw [HFIVE.out]
                    unfold good5 at hg
                    simp only [Bool.and_eq_true] at hg
                    simp only [hg, true_and])
                  have HNO : Hid (¬ ((tfind C.T tv.str).isSome = true ∧ 0 ≤ cv.num ∧ cv.num < (colsOf C.T tv.str).length ∧ C.addIR nv.str tv.str ((colsOf C.T tv.str)[cv.num.toNat]?.getD ⟨⟨#[]⟩, 0, false, false⟩).name = 0) → rRead rows = none) := Lib.hid (fun h => rRead_no2 HF0.out (k := k + 1) (by rw [HST2.out, HSTP.out, if_neg h]))
                  obtain ⟨_, _, pt⟩ := PT.out wc hx
                  obtain ⟨_, pc, _⟩ := PC.out wc hx
                  clear hg hx
                  cases hf : tfind C.T tv.str with
                  | none =>
                    have HN := Lib.hid (HNO.out (by rw [hf]; simp))
                    have hfd := rfind_at (findI_none hf) HCC.out
                    clear hf
                    go_wp2_with fail
                    refine hfd.mono ?_
                    rintro e w' ⟨rfl, rfl⟩
                    clear hfd
                    go_wp2
                    go_quiet (fail)
                    go_wp2
                    go_ret2
                    rw [HN.out]
                    exact ⟨rfl, HXC.out.drewN _⟩
                  | some s =>
                    obtain ⟨i, hi, hs⟩ := findI_some hf
                    have hfd := rfind_at hi HCC.out
                    have hcs : colsOf C.T tv.str = s.cols := by unfold colsOf; rw [hf]
                    have HCS := Lib.hid hcs; have HTF := Lib.hid (show (tfind C.T tv.str).isSome = true by rw [hf]; rfl)
                    have hil := (List.getElem?_eq_some_iff.1 hs).1
                    have hit := HCC.out.ok.t16
                    have hc16 := (mayB_len (HCC.out.ok.tm s (tfind_mem hf))).2.1
                    obtain ⟨⟨tao, tcap, rfl⟩, io, icap, rfl⟩ := HCC.out.form
                    obtain ⟨us0, hT1, hT2⟩ := HCC.out.T
                    obtain ⟨b0, o0, a1, k1, rfl, hb0, hF0, q0, q1, qc⟩ := tab_cell hT2 hT1.readOwn hs
                    obtain ⟨e0, _, e2⟩ := HCC.out.cells
                    have HQC := Lib.hid qc; have HQ1 := Lib.hid q1; have HE0 := Lib.hid e0
                    have hin : decide ((i : Int) < 0) = false := by simp
                    clear hf hi hs hcs hT1 hT2 qc q0
                    go_wp2_with fail
                    refine hfd.mono ?_
                    rintro e w' ⟨rfl, rfl⟩
                    clear hfd pt
                    by_cases hneg : cv.num < 0
                    · have HN := Lib.hid (HNO.out (by omega))
                      go_wp2
                      go_quiet (fail)
                      go_wp2
                      go_ret2
                      rw [HN.out]
                      exact ⟨rfl, HXC.out.drewN _⟩
                    ·
                     as_aux_lemma =>
                      obtain ⟨m, hm⟩ : ∃ m : Nat, cv.num = (m : Int) := ⟨cv.num.toNat, by omega⟩
                      have HM := Lib.hid hm
                      rw [hm] at pc
                      have hmn : decide ((m : Int) < 0) = false := by simp
                      clear hneg hm
                      by_cases hge : s.cols.length ≤ m
                      · have HN := Lib.hid (HNO.out (by rw [HCS.out, HM.out]; omega))
                        have hge' : decide ((s.cols.length : Int) ≤ (m : Int)) = true := by simp; omega
                        go_wp2
                        go_quiet (fail)
                        go_wp2
                        go_ret2
                        rw [HN.out]
                        exact ⟨rfl, HXC.out.drewN _⟩
                      ·
                       as_aux_lemma =>
                        have hml : m < s.cols.length := by omega
                        have hge' : decide ((s.cols.length : Int) ≤ (m : Int)) = false := by simp; omega
                        obtain ⟨x, hx⟩ : ∃ x, s.cols[m]? = some x := ⟨_, List.getElem?_eq_getElem hml⟩
                        obtain ⟨b4, o4, rfl, hb4, hK4, r0, _, _, _⟩ := ColsAt.col (w := wc) rfl HQC.out hx
                        have HR0 := Lib.hid r0
                        have HXN : Hid (((colsOf C.T tv.str)[cv.num.toNat]?.getD ⟨⟨#[]⟩, 0, false, false⟩).name = x.name) := Lib.hid (by rw [HCS.out, HM.out, Int.toNat_natCast, hx]; rfl)
                        have hS : ∀ W, Chg (fun g => g = r ∨ (Value.slice io C.I.length icap).ownBlock = some g) wc W → W.cell? ⟨r, 0, none⟩ = some (.slice (some ⟨b0, o0, none⟩) C.T.length tcap) → W.cell? ⟨r, 0, none⟩ = some (.slice (some ⟨b0, o0, none⟩) C.T.length tcap) ∧ W.cell? ⟨b0, o0 + i * 2 + 1, none⟩ = some (.slice (some ⟨b4, o4, none⟩) s.cols.length k1) ∧ W.cell? ⟨b4, o4 + m * 4, none⟩ = some (.string x.name) ∧ W.cell? ⟨b2, o2 + 3 + 2, none⟩ = some (.string nv.str) ∧ W.cell? ⟨b2, o2 + 6 + 2, none⟩ = some (.string tv.str) ∧ W.cell? ⟨b2, o2 + 9 + 1, none⟩ = some (.int .i64 m) ∧ W.cell? ⟨b2, o2 + 12 + 1, none⟩ = some (.int .i64 fv.num) := fun W hW h0 => by
                          have hrf := HCC.out.rf
                          have hK := HCC.out.out b4 hK4
                          have k0 := hW.keep b0 hb0 (fun h => by
                            rcases h with h | h
                            · exact HCC.out.ne_t (h ▸ hF0)
                            · exact HCC.out.ne b0 hF0 h)
                          have k4 := hW.keep b4 hb4 (fun h => by
                            rcases h with h | h
                            · exact hK.1 h
                            · exact hK.2.2 h)
                          have k2 := hW.keep b2 (Nat.lt_of_lt_of_le hb2w HXC.out.size) (fun h => by
                            rcases h with h | h
                            · have := (hrf r (.inl rfl)).1; omega
                            · have := (hrf b2 (.inr (.inr h))).1; omega)
                          obtain ⟨_, _, n2⟩ := PN.out wc HX1.out
                          obtain ⟨_, _, t2⟩ := PT.out wc HX1.out
                          obtain ⟨_, c1, _⟩ := PC.out wc HX1.out
                          obtain ⟨_, f1, _⟩ := PF.out wc HX1.out
                          rw [HM.out] at c1
                          exact ⟨h0, (cell_of_heap k0).trans HQ1.out, (cell_of_heap k4).trans HR0.out, (cell_of_heap k2).trans n2, (cell_of_heap k2).trans t2, (cell_of_heap k2).trans c1, (cell_of_heap k2).trans f1⟩
                        have HS9 := Lib.hid hS
                        clear hS hx r0 pc q1 e0 hge
                        go_wp2
                        refine wp_region_lex (fun W => W.cell? ⟨r, 0, none⟩ = some (.slice (some ⟨b0, o0, none⟩) C.T.length tcap) ∧ W.cell? ⟨b0, o0 + i * 2 + 1, none⟩ = some (.slice (some ⟨b4, o4, none⟩) s.cols.length k1) ∧ W.cell? ⟨b4, o4 + m * 4, none⟩ = some (.string x.name) ∧ W.cell? ⟨b2, o2 + 3 + 2, none⟩ = some (.string nv.str) ∧ W.cell? ⟨b2, o2 + 6 + 2, none⟩ = some (.string tv.str) ∧ W.cell? ⟨b2, o2 + 9 + 1, none⟩ = some (.int .i64 m) ∧ W.cell? ⟨b2, o2 + 12 + 1, none⟩ = some (.int .i64 fv.num)) 99 [55] [0, 1, 2, 3, 4, 5, 6, 7, 8, 9, 10, 11, 12, 13, 14, 15, 16, 17, 18, 19, 20, 21, 22, 23, 24, 25, 26, 27, 28, 29, 30, 31, 32, 33, 34, 35, 36, 37, 38, 39, 40, 41, 42, 43, 44, 45, 46, 47, 48, 49, 50, 51, 52, 53, 54, 55, 56, 57] (by kernel_rfl) (by kernel_rfl) (HS9.out _ (Chg.refl _ _).drew HE0.out) ?_
                        have ri0 : decide (s.cols.length ≤ m) = false := decide_eq_false (by omega)
                        have ri9 : ¬ s.cols.length ≤ m := by omega
                        have ri1 : (1 : Int) < (row.length : Int) := by omega
                        have ri2 : (2 : Int) < (row.length : Int) := by omega
                        have ri3 : (3 : Int) < (row.length : Int) := by omega
                        have ri4 : (4 : Int) < (row.length : Int) := by omega
                        have ri5 : (i : Int) < (C.T.length : Int) := by omega
                        have ri6 : (m : Int) < (s.cols.length : Int) := by omega
                        iterate 3
                          refine' lex_free (v := _) rfl rfl rfl ?_ (fun _ _ _ h => h) ?_
                          rotate_left
                          · rintro W ⟨hW1, hW2, hW3, hW4, hW5, hW6, hW7⟩
                            go_simp
                            with_reducible rfl
                          try simp only [Act.put, List.setIfInBounds_toArray, List.set_cons_zero, List.set_cons_succ]
                        iterate 5
                          refine' lex_freeG (v := _) rfl rfl rfl ?_ (fun _ _ _ h => h) ?_
                          rotate_left
                          · rintro W ⟨hW1, hW2, hW3, hW4, hW5, hW6, hW7⟩
                            go_simp
                            with_reducible rfl
                          try simp only [Act.put, List.setIfInBounds_toArray, List.set_cons_zero, List.set_cons_succ]
                        iterate 2
                          refine' lex_free (v := _) rfl rfl rfl ?_ (fun _ _ _ h => h) ?_
                          rotate_left
                          · rintro W ⟨hW1, hW2, hW3, hW4, hW5, hW6, hW7⟩
                            go_simp
                            with_reducible rfl
                          try simp only [Act.put, List.setIfInBounds_toArray, List.set_cons_zero, List.set_cons_succ]
                        iterate 14
                          refine' lex_freeG (v := _) rfl rfl rfl ?_ (fun _ _ _ h => h) ?_
                          rotate_left
                          · rintro W ⟨hW1, hW2, hW3, hW4, hW5, hW6, hW7⟩
                            go_simp
                            with_reducible rfl
                          try simp only [Act.put, List.setIfInBounds_toArray, List.set_cons_zero, List.set_cons_succ]
                        iterate 2
                          refine' lex_free (v := _) rfl rfl rfl ?_ (fun _ _ _ h => h) ?_
                          rotate_left
                          · rintro W ⟨hW1, hW2, hW3, hW4, hW5, hW6, hW7⟩
                            go_simp
                            with_reducible rfl
                          try simp only [Act.put, List.setIfInBounds_toArray, List.set_cons_zero, List.set_cons_succ]
                        iterate 29
                          refine' lex_freeG (v := _) rfl rfl rfl ?_ (fun _ _ _ h => h) ?_
                          rotate_left
                          · rintro W ⟨hW1, hW2, hW3, hW4, hW5, hW6, hW7⟩
                            go_simp
                            with_reducible rfl
                          try simp only [Act.put, List.setIfInBounds_toArray, List.set_cons_zero, List.set_cons_succ]
                        refine lex_opG rfl rfl rfl (fun K hK => ?_)
                        go_simp
                        refine (raddI_any w.heap.size r _ _ _ C nv.str tv.str x.name (fv.num == 1) wc.drew (HCC.out.quiet (Chg.refl _ _).drew) HNB.out HXC.out.size).mono ?_
                        rintro e w9 ⟨rfl, vi', h9, x9, _⟩
                        have HC9 := Lib.hid h9
                        have X9 := Lib.hid ((Chg.refl (fun g => g = r ∨ (Value.slice io C.I.length icap).ownBlock = some g) wc).drew.trans x9 (fun _ h => .inl h))
                        have HX9 := Lib.hid (quiet_of HXC.out X9.out (fun g hg => by
                          rcases hg with rfl | hg
                          · exact (HCC.out.rf g (.inl rfl)).1
                          · exact (HCC.out.rf g (.inr (.inr hg))).1))
                        refine hK _ _ (fun _ => HS9.out w9 X9.out h9.cells.1) ?_
                        clear hK K
                        try simp only [Act.put, List.setIfInBounds_toArray, List.set_cons_zero, List.set_cons_succ]
                        clear h9 x9
                        by_cases hadd : C.addIR nv.str tv.str x.name = 0
                        ·
                         as_aux_lemma =>
                          have HSS : Hid (foldO rIxStep' C0 (rows.take (k + 1)) = some (C.addI nv.str tv.str x.name (fv.num == 1))) := Lib.hid (by
                            rw [HST2.out, HSTP.out, HXN.out, if_pos ⟨HTF.out, by rw [HM.out]; omega, by rw [HCS.out, HM.out]; omega, hadd⟩])
                          rw [hadd]
                          clear hadd
                          iterate 1
                            refine' lex_freeG (v := _) rfl rfl rfl ?_ (fun _ _ _ h => h) ?_
                            rotate_left
                            · rintro W ⟨hW1, hW2, hW3, hW4, hW5, hW6, hW7⟩
                              go_simp
                              with_reducible rfl
                            try simp only [Act.put, List.setIfInBounds_toArray, List.set_cons_zero, List.set_cons_succ]
                          iterate 1
                            refine' lex_free (v := _) rfl rfl rfl ?_ (fun _ _ _ h => h) ?_
                            rotate_left
                            · rintro W ⟨hW1, hW2, hW3, hW4, hW5, hW6, hW7⟩
                              go_simp
                              with_reducible rfl
                            try simp only [Act.put, List.setIfInBounds_toArray, List.set_cons_zero, List.set_cons_succ]
                          refine lex_nil ?_
                          go_wp2
                          go_roundw
                          case rel => exact ⟨k + 1, _, _, vi', K, by omega, by go_num, HSS, HC9, HX9⟩
                          case measure => simp [intOf]; omega
                        · have HN := Lib.hid (HNO.out (by rw [HXN.out]; exact fun h => hadd h.2.2.2))
                          have hne : (C.addIR nv.str tv.str x.name != 0) = true := by simpa using hadd
                          clear hadd
                          iterate 1
                            refine' lex_freeG (v := _) rfl rfl rfl ?_ (fun _ _ _ h => h) ?_
                            rotate_left
                            · rintro W ⟨hW1, hW2, hW3, hW4, hW5, hW6, hW7⟩
                              go_simp
                              with_reducible rfl
                            try simp only [Act.put, List.setIfInBounds_toArray, List.set_cons_zero, List.set_cons_succ]
                          iterate 1
                            refine' lex_free (v := _) rfl rfl rfl ?_ (fun _ _ _ h => h) ?_
                            rotate_left
                            · rintro W ⟨hW1, hW2, hW3, hW4, hW5, hW6, hW7⟩
                              go_simp
                              with_reducible rfl
                            try simp only [Act.put, List.setIfInBounds_toArray, List.set_cons_zero, List.set_cons_succ]
                          refine lex_nil ?_
                          go_wp2
                          go_ret2
                          rw [HN.out]
                          exact ⟨rfl, HX9.out⟩
            · have HN : Hid (rRead rows = none) := Lib.hid (rRead_no2 HF0.out (k := k + 1) (by rw [HST2.out, rIxStep_len h5]))
              have h5' : ((row.length : Int) != 5) = true := by simp; omega
              clear h5
              go_wp2
              go_ret2
              rw [HN.out]
              exact ⟨rfl, HX.out⟩
        · have HN : Hid (rRead rows = some C) := Lib.hid (by
            have := HS.out
            rw [show k = rows.length by omega, List.take_length] at this
            rw [HRD.out, this])
          go_wp2
          go_ret2
          rw [HN.out]
          exact ⟨⟨r, vt, vi, K, rfl, HC.out⟩, HX.out⟩
end Go.Proofs.Ytpiijcjbphpffaa
