/-
  What the catalog's test of a table does: a name, one to sixteen columns with names that are unlike, each of a type. No condition beyond each lemma's own.
-/
import Derived.Test.YtpiijcjbphpffaaCCall
set_option autoImplicit false
namespace Go.Proofs.Ytpiijcjbphpffaa
open Go Go.RowKit

abbrev big (s : ByteArray) : Prop := s.size ≤ 9223372036854775807
/-- is column number k one that may be? -/
def colOk (cs : List Col) (k : Nat) (c : Col) : Bool := nameB c.name && !((cs.take k).any fun d => d.name == c.name) && decide (1 ≤ c.ty) && decide (c.ty ≤ 3)
def colsOk (cs : List Col) (k : Nat) : Bool := (List.range k).all fun i => match cs[i]? with
  | some c => colOk cs i c
  | none => true
def mayB (n : ByteArray) (cs : List Col) : Bool := colsOk cs cs.length && nameB n && decide (0 < cs.length) && decide (cs.length ≤ 16)
theorem colsOk_succ {cs : List Col} {k : Nat} {c : Col} (h : cs[k]? = some c) : colsOk cs (k + 1) = (colsOk cs k && colOk cs k c) := by
  unfold colsOk; rw [List.range_succ, List.all_append]; simp [h]
theorem colsOk_mono {cs : List Col} {k n : Nat} (h : colsOk cs n = true) (hk : k ≤ n) : colsOk cs k = true := by
  unfold colsOk at *
  rw [List.all_eq_true] at *
  intro i hi
  exact h i (by simp at *; omega)
theorem mayB_no {n : ByteArray} {cs : List Col} {k : Nat} (hk : k < cs.length) (h : colsOk cs (k + 1) = false) : mayB n cs = false := by
  unfold mayB
  cases hn : colsOk cs cs.length with
  | false => rfl
  | true => rw [colsOk_mono hn (by omega : k + 1 ≤ cs.length)] at h; cases h
/-! a set of strings -/
structure SetEnt (es : Array MapEntry) (l : List ByteArray) : Prop where
  keys : KeysTy .string es.toList
  look : ∀ k, mfind es.toList (.string k) = if l.any (fun x => x == k) then some (.bool true) else none
theorem kmatch_str (a b : ByteArray) : kmatch (.string a) (.string b) = (a == b) := rfl
theorem SetEnt.nil : SetEnt #[] [] := ⟨fun e he => by simp at he, fun k => by simp [mfind]⟩
theorem SetEnt.put {es : Array MapEntry} {l : List ByteArray} (h : SetEnt es l) (c : Nat) (x : ByteArray) : SetEnt (mput es c (.string x) (.bool true)) (l ++ [x]) := by
  refine ⟨mput_keys (by trivial) h.keys, fun k => ?_⟩
  rw [mfind_mput (d := .string) (by trivial), kmatch_str, h.look, List.any_append]
  by_cases hk : k = x
  · subst hk
    have : (k == k) = true := (bytesBeq k k).2 rfl
    simp [this]
  · have h1 : (k == x) = false := by
      cases hh : k == x with
      | false => rfl
      | true => exact absurd ((bytesBeq k x).1 hh) hk
    have h2 : (x == k) = false := by
      cases hh : x == k with
      | false => rfl
      | true => exact absurd ((bytesBeq x k).1 hh).symm hk
    simp [h1, h2]
theorem zero_bool (w : World) : (zeroValue 4).run Try.prog w = .ok (.bool false) w := by kernel_rfl
theorem SetEnt.at_ {es : Array MapEntry} {l : List ByteArray} (h : SetEnt es l) (k : ByteArray) {w : World} {b c : Nat} (hb : w.heap[b]? = some (.map es c)) :
    (Instr.lookup 94 (.map (some b)) (.string k) false).run Try.prog w = .ok (.bool (l.any fun x => x == k)) w := by
  rw [run_lookup w Try.underlying94 Try.underlying9 (by trivial) hb h.keys zero_bool false, h.look]
  cases l.any (fun x => x == k) <;> rfl
theorem any_names (cs : List Col) (x : ByteArray) : (cs.map (·.name)).any (fun y => y == x) = cs.any fun d => d.name == x := by rw [List.any_map]; rfl
theorem ty_no (cs : List Col) (k : Nat) (c : Col) (h : c.ty < 1 ∨ 3 < c.ty) : colOk cs k c = false := by
  unfold colOk
  rcases h with h | h
  · have : decide (1 ≤ c.ty) = false := by simp; omega
    simp [this]
  · have : decide (c.ty ≤ 3) = false := by simp; omega
    simp [this]
theorem hal_new' {w : World} {o : Obj} {n : Nat} (h : n = w.heap.size) : (w.alloc o).heap[n]? = some o := by subst h; exact hal_new
set_option maxRecDepth 100000 in
set_option maxHeartbeats 1000000 in
theorem may_any (n : ByteArray) (v : Value) (F : Nat → Prop) (cs : List Col) (w : World) (hv : ColsAt w F v cs) (hm : cs.length ≤ 9223372036854775807) (hn : big n) (hb : ∀ c ∈ cs, big c.name) :
    Calls Try.prog 25 #[.agg #[.string n, v]] w fun e w' => e = .returned (.bool (mayB n cs)) ∧ Chg (fun _ => False) w w' := by
  obtain ⟨ao, cap, rfl, hp⟩ := hv
  have HV : Hid (ColsAt w F (.slice ao cs.length cap) cs) := Lib.hid ⟨ao, cap, rfl, hp⟩
  have HB := Lib.hid hb
  have hmm := @run_makeMap Try.prog
  clear hp hb
  go_enter Try.func25, Try.ntmps25
  go_wp2
  go_loopw [10] (fun s wr => ∃ (k : Nat) (es : Array MapEntry) (c : Nat), k ≤ cs.length ∧ s = .int .i64 k ∧ Hid (colsOk cs k = true) ∧ Hid (wr.heap[w.heap.size + 1]? = some (.map es c)) ∧ Hid (SetEnt es ((cs.take k).map (·.name))) ∧ Hid (wr.heap[w.heap.size]? = some (.cells #[.string n, .slice ao cs.length cap] 27 (0, 0))) ∧ Hid (Chg (fun _ => False) w wr)) (fun s _ => cs.length - (intOf s).toNat)
  case atStart =>
    refine ⟨0, #[], 0, Nat.zero_le _, rfl, Lib.hid (by simp [colsOk]), Lib.hid ?_, Lib.hid SetEnt.nil, Lib.hid ?_, Lib.hid ?_⟩
    · rw [hal_new' (w := w.alloc _) (by simp)]
    · rw [hal_old (by simp), hal_new]
    · exact ((Chg.refl _ _).alloc _).alloc _
  case round =>
    obtain ⟨k, es, c, hk, rfl, HC, HM, HS, HT, HX⟩ := hrel
    by_cases hlt : k < cs.length
    · obtain ⟨x, hx⟩ : ∃ x, cs[k]? = some x := ⟨_, List.getElem?_eq_getElem hlt⟩
      obtain ⟨b, o, rfl, hbl, _, q0, q1, q2, q3⟩ := ColsAt.col (w := wr) rfl (RowAt.quiet HV.out HX.out) hx
      have HG := Lib.hid hx
      have hnm : big x.name := HB.out x (List.mem_of_getElem? hx)
      clear hx
      have HW := Lib.hid (colsOk_succ (k := k) HG.out)
      have HM1 : Hid ((wr.alloc (.cells #[.string x.name, .int .i64 x.ty, .bool x.nn, .bool x.un] 30)).heap[w.heap.size + 1]? = some (.map es c)) := Lib.hid (by rw [hal_old (lt_of_heap HM.out)]; exact HM.out)
      have HX1 : Hid (Chg (fun _ => False) w (wr.alloc (.cells #[.string x.name, .int .i64 x.ty, .bool x.nn, .bool x.un] 30))) := Lib.hid (HX.out.alloc _)
      have hl1 := HS.out.at_ x.name HM1.out
      rw [any_names] at hl1
      cases h1 : nameB x.name with
      | false =>
        have HN := Lib.hid (mayB_no (n := n) hlt (by rw [HW.out, show colOk cs k x = false by unfold colOk; rw [h1]; rfl, Bool.and_false]))
        have h1' := Lib.hid h1
        clear h1 hl1
        go_wp2_with fail
        refine (name_any x.name _ hnm).mono ?_
        rw [h1'.out]
        rintro e w' ⟨rfl, rfl⟩
        go_wp2
        go_ret
        exact ⟨ret_bool HN.out.symm, HX1.out⟩
      | true =>
        have h1' := Lib.hid h1
        cases h2 : (cs.take k).any (fun d => d.name == x.name) with
        | true =>
          rw [h2] at hl1
          have HN := Lib.hid (mayB_no (n := n) hlt (by rw [HW.out, show colOk cs k x = false by unfold colOk; rw [h1, h2]; rfl, Bool.and_false]))
          clear h1 h2
          go_wp2_with fail
          refine (name_any x.name _ hnm).mono ?_
          rw [h1'.out]
          rintro e w' ⟨rfl, rfl⟩
          go_wp2
          go_ret
          exact ⟨ret_bool HN.out.symm, HX1.out⟩
        | false =>
          rw [h2] at hl1
          have h2' := Lib.hid h2
          clear h1 h2
          by_cases h3 : x.ty < 1
          · have HN := Lib.hid (mayB_no (n := n) hlt (by rw [HW.out, ty_no cs k x (.inl h3), Bool.and_false]))
            go_wp2_with fail
            refine (name_any x.name _ hnm).mono ?_
            rw [h1'.out]
            rintro e w' ⟨rfl, rfl⟩
            go_wp2
            go_ret
            exact ⟨ret_bool HN.out.symm, HX1.out⟩
          · by_cases h4 : 3 < x.ty
            · have HN := Lib.hid (mayB_no (n := n) hlt (by rw [HW.out, ty_no cs k x (.inr h4), Bool.and_false]))
              go_wp2_with fail
              refine (name_any x.name _ hnm).mono ?_
              rw [h1'.out]
              rintro e w' ⟨rfl, rfl⟩
              go_wp2
              go_ret
              exact ⟨ret_bool HN.out.symm, HX1.out⟩
            · have hmu := run_mapUpdate (P := Try.prog) (wr.alloc (.cells #[.string x.name, .int .i64 x.ty, .bool x.nn, .bool x.un] 30)) (t := 94) (kt := 9) (et := 4) (d := .string) (k := .string x.name) (v := .bool true) Try.underlying94 Try.underlying9 (by trivial) HM1.out HS.out.keys
              have HK := Lib.hid (show colsOk cs (k + 1) = true by
                rw [HW.out, HC.out]
                unfold colOk
                rw [h1'.out, h2'.out, show decide (1 ≤ x.ty) = true by simp; omega, show decide (x.ty ≤ 3) = true by simp; omega]
                rfl)
              go_wp2_with fail
              refine (name_any x.name _ hnm).mono ?_
              rw [h1'.out]
              rintro e w' ⟨rfl, rfl⟩
              go_wp2
              go_roundw
              case rel =>
                refine ⟨k + 1, _, _, by omega, by go_num, HK, Lib.hid (hobj_eq (lt_of_heap HM1.out)), Lib.hid (show SetEnt _ _ from ?_), Lib.hid ?_, Lib.hid (HX1.out.setObj (.inr (by simp)) _)⟩
                · have := HS.out.put c x.name
                  rw [List.take_add_one, HG.out]
                  simpa using this
                · rw [hobj_ne (by omega), hal_old (lt_of_heap HT.out)]; exact HT.out
              case measure => simp [intOf]; omega
    · have HE := Lib.hid (show k = cs.length by omega)
      have t0 := cell_of_row wr w.heap.size 0 _ _ _ HT.out
      have t1 := cell_of_row wr w.heap.size 1 _ _ _ HT.out
      cases h1 : nameB n with
      | false =>
        have h1' := Lib.hid h1
        clear h1
        go_wp2_with fail
        refine (name_any n _ hn).mono ?_
        rw [h1'.out]
        rintro e w' ⟨rfl, rfl⟩
        go_wp2
        go_ret
        exact ⟨ret_bool (by unfold mayB; rw [h1'.out]; simp), HX.out⟩
      | true =>
        have h1' := Lib.hid h1
        clear h1
        go_wp2_with fail
        refine (name_any n _ hn).mono ?_
        rw [h1'.out]
        rintro e w' ⟨rfl, rfl⟩
        obtain rfl := HE.out
        go_wp2
        · go_ret
          refine ⟨ret_bool ?_, HX.out⟩
          unfold mayB
          rw [h1'.out, HC.out, show decide (0 < cs.length) = true by simpa using ‹0 < cs.length›]
          simp
          omega
        · go_ret
          refine ⟨ret_bool ?_, HX.out⟩
          unfold mayB
          rw [show decide (0 < cs.length) = false by simpa using ‹¬ 0 < cs.length›]
          simp
end Go.Proofs.Ytpiijcjbphpffaa
