/-
  What New of the book of transactions makes. Condition: the list of those that are done reads as numbers.
-/
import Derived.Test.YtkneldeemlngkaaMNew
import Derived.Carry
set_option autoImplicit false
namespace Go.Proofs.Ytkneldeemlngkaa
open Go Go.RowKit

def isIn (V : Nat → Int) (len : Nat) (k : Int) : Bool := (List.range len).any fun i => V i == k
theorem isIn_succ (V : Nat → Int) (n : Nat) (k : Int) : isIn V (n + 1) k = (isIn V n k || V n == k) := by
  unfold isIn; rw [List.range_succ, List.any_append]; simp
theorem isIn_iff (V : Nat → Int) (n : Nat) (k : Int) : isIn V n k = true ↔ ∃ i, i < n ∧ V i = k := by
  unfold isIn; simp
def marks (V : Nat → Int) (len : Nat) (k : Int) : Option Ent := if isIn V len k then some (2, 0, 0) else none
theorem marks_succ (V : Nat → Int) (n : Nat) : eupd (marks V n) (V n) (2, 0, 0) = marks V (n + 1) := by
  funext k
  unfold eupd marks
  rw [isIn_succ]
  by_cases h : k = V n
  · subst h; simp
  · have : (V n == k) = false := by simpa using fun e => h e.symm
    rw [if_neg h, this, Bool.or_false]
def Bk.start (nx mo : Int) (V : Nat → Int) (len : Nat) : Bk := { next := nx, most := mo, step := 0, first := nx, all := marks V len }
structure NewOk (nx mo : Int) (V : Nat → Int) (len : Nat) : Prop where
  n1 : 1 ≤ nx
  m0 : 0 ≤ mo
  m1 : mo ≤ 16777216
  n2 : nx ≤ mo + 1
  all : ∀ i, i < len → outOf nx (V i) = false
theorem mapEnt_empty : MapEnt #[] 0 (fun _ => none) := ⟨fun e he => by simp at he, fun k => by simp [mfind], MapKept.stamped_empty 0⟩
theorem new_book (nx mo : Int) (V : Nat → Int) (w : World) (n1 : 1 ≤ nx) (m1 : mo ≤ 16777216) (n2 : nx ≤ mo + 1) (bo : Obj) :
    BookIn (((w.alloc bo).alloc (.map #[] 0)).alloc (.cells #[.int .i64 nx, .int .i64 mo, .int .i64 0, .map (some (w.heap.size + 1)), .int .i64 nx] 57)) (w.heap.size + 2) (fun k => w.heap.size ≤ k) (Bk.start nx mo V 0) (w.heap.size + 1) #[] 0 := by
  have e1 : (w.alloc bo).heap.size = w.heap.size + 1 := by simp
  have e2 : ((w.alloc bo).alloc (.map #[] 0)).heap.size = w.heap.size + 2 := by simp
  refine ⟨?_, ?_, ?_, by omega, by omega, ?_⟩
  · have := hal_new (w := (w.alloc bo).alloc (.map #[] 0)) (o := .cells #[.int .i64 nx, .int .i64 mo, .int .i64 0, .map (some (w.heap.size + 1)), .int .i64 nx] 57)
    rw [e2] at this
    exact this
  · rw [hal_old (by rw [e2]; omega)]
    have := hal_new (w := w.alloc bo) (o := .map #[] 0)
    rw [e1] at this
    exact this
  · have : (Bk.start nx mo V 0).all = fun _ => none := by funext k; simp [Bk.start, marks, isIn]
    rw [this]; exact mapEnt_empty
  · exact ⟨n1, n2, m1, Int.le_refl _, n1, Int.le_refl _, fun k e hk => by simp [Bk.start, marks, isIn] at hk⟩
set_option maxRecDepth 100000 in
theorem new_ok (nx mo : Int) (ao : Option Addr) (len cap : Nat) (V : Nat → Int) (w : World) (hm : len ≤ 9223372036854775807) (h : SlRd w ao len 1 (fun i _ => .int .i64 (V i))) (hok : NewOk nx mo V len) :
    Calls Try.prog 6 #[.int .i64 nx, .int .i64 mo, .slice ao len cap] w fun e w' => ∃ r, e = .returned (.tuple #[.pointer (some ⟨r, 0, none⟩), .int .i64 0]) ∧ BookAt w' r (Ext (fun _ => False) w w') (Bk.start nx mo V len) ∧ Chg (fun _ => False) w w' := by
  obtain ⟨n1, m0, m1, n2, hall⟩ := hok
  have HR := Lib.hid h; have HA := Lib.hid hall
  have hmm := @run_makeMap Try.prog
  clear h hall
  go_enter Try.func6, Try.ntmps6
  go_wp2_with fail
  refine (icontains_any ao len cap V nx w.heap.size _ (by rw [cell_of_row _ _ 0 _ _ _ hal_new]; rfl) hm (HR.out.chg (Chg.alloc (Chg.refl (fun _ => False) w) _) (fun _ _ h => h))).mono ?_
  rintro e w1 ⟨b, rfl, hb, rfl⟩
  have hbf : b = false := by
    cases b with
    | false => rfl
    | true => obtain ⟨i, hi, ho⟩ := hb.1 rfl; rw [HA.out i hi] at ho; cases ho
  subst hbf
  clear hb
  have HB := Lib.hid (new_book nx mo V w n1 m1 n2 (.cells #[.int .i64 nx] 3))
  have X0 := Lib.hid ((((Chg.refl (fun _ => False) w).alloc (.cells #[.int .i64 nx] 3)).alloc (.map #[] 0)).alloc (.cells #[.int .i64 nx, .int .i64 mo, .int .i64 0, .map (some (w.heap.size + 1)), .int .i64 nx] 57))
  go_wp2
  go_loopw [40] (fun s wr => ∃ (k : Nat) (es : Array MapEntry) (c : Nat), k ≤ len ∧ s = .int .i64 k ∧ BookIn wr (w.heap.size + 2) (fun k => w.heap.size ≤ k) (Bk.start nx mo V k) (w.heap.size + 1) es c ∧ Chg (fun _ => False) w wr) (fun s _ => len - (intOf s).toNat)
  case atStart => exact ⟨0, #[], 0, Nat.zero_le _, rfl, HB.out, X0.out⟩
  case round =>
    clear HB X0
    obtain ⟨k, es, c, hk, rfl, hb, hx⟩ := hrel
    have c3 := hb.cells.2.2.2.1
    by_cases hlt : k < len
    · obtain ⟨bb, o, rfl, hbl, hc⟩ := HR.out (by omega)
      have hci := hc k 0 hlt (by omega)
      simp only [Nat.mul_one, Nat.add_zero] at hci
      have hcw := (cell_of_heap (hx.keep bb hbl (fun h => h)) (o := o + k)).trans hci
      have hmu := run_mapUpdate (P := Try.prog) wr (t := 55) (kt := 3) (et := 59) (d := .int .i64) (k := .int .i64 (V k)) (v := entV (2, 0, 0)) Try.underlying55 Try.underlying3 (by rfl) hb.map hb.is.keys
      have hout := HA.out k hlt
      have hrg : 1 ≤ V k ∧ V k < nx := by unfold outOf at hout; simp at hout; omega
      have HRG := Lib.hid hrg; have HBK := Lib.hid hb; have HX := Lib.hid hx
      unfold entV at hmu
      clear hc hci hb hx hout hrg
      go_wp2
      go_roundw
      case rel =>
        have hh := HBK.out
        refine ⟨k + 1, mput es c (.int .i64 (V k)) (entV (2, 0, 0)), mclock es c (.int .i64 (V k)), by omega, by go_num, ⟨?_, hobj_eq (lt_of_heap hh.map), ?_, hh.fr, hh.fm, ?_⟩, HX.out.setObj (.inr (by omega)) _⟩
        · rw [hobj_ne (by omega)]; exact hh.self
        · have := hh.is.put (V k) (2, 0, 0)
          rw [show (Bk.start nx mo V k).all = marks V k from rfl, marks_succ] at this
          exact this
        · refine ⟨hh.ok.n1, hh.ok.n2, hh.ok.m1, hh.ok.s0, hh.ok.f1, hh.ok.f2, fun x e hxe => ?_⟩
          have : eupd (marks V k) (V k) (2, 0, 0) x = some e := by rw [marks_succ]; exact hxe
          unfold eupd at this
          split at this
          · rename_i hxk; rw [hxk]; exact HRG.out
          · exact hh.ok.dom x e this
      case measure => simp [intOf]; omega
    · obtain rfl : k = len := by omega
      have HBK := Lib.hid hb; have HX := Lib.hid hx
      clear hb hx
      go_wp2
      go_ret2
      exact ⟨_, rfl, BookAt.mono ⟨_, _, _, HBK.out⟩ (fun k hk hl => .inr ⟨hk, hl⟩), HX.out⟩
set_option maxRecDepth 100000 in
theorem new_bad (nx mo : Int) (ao : Option Addr) (len cap : Nat) (V : Nat → Int) (w : World) (hm : len ≤ 9223372036854775807) (h : SlRd w ao len 1 (fun i _ => .int .i64 (V i))) (hbad : ¬ NewOk nx mo V len) (hmo : mo ≤ 9223372036854775807) :
    Calls Try.prog 6 #[.int .i64 nx, .int .i64 mo, .slice ao len cap] w fun e w' => e = .returned (.tuple #[.pointer none, .int .i64 1]) ∧ Chg (fun _ => False) w w' := by
  have HR := Lib.hid h
  clear h
  by_cases h1 : nx < 1
  · clear hbad
    go_enter Try.func6, Try.ntmps6
    go_wp2
    go_ret2
    exact ⟨rfl, (Chg.refl _ _).alloc _⟩
  · by_cases h2 : mo < 0
    · clear hbad
      go_enter Try.func6, Try.ntmps6
      go_wp2
      go_ret2
      exact ⟨rfl, (Chg.refl _ _).alloc _⟩
    · by_cases h3 : 16777216 < mo
      · clear hbad
        go_enter Try.func6, Try.ntmps6
        go_wp2
        go_ret2
        exact ⟨rfl, (Chg.refl _ _).alloc _⟩
      · by_cases h4 : mo + 1 < nx
        · clear hbad
          go_enter Try.func6, Try.ntmps6
          go_wp2
          go_ret2
          exact ⟨rfl, (Chg.refl _ _).alloc _⟩
        · have h5 : ∃ i, i < len ∧ outOf nx (V i) = true := by
            refine Classical.byContradiction fun hn => hbad ⟨by omega, by omega, by omega, by omega, fun i hi => ?_⟩
            cases ho : outOf nx (V i) with
            | false => rfl
            | true => exact absurd ⟨i, hi, ho⟩ hn
          have H5 := Lib.hid h5
          clear hbad h5
          go_enter Try.func6, Try.ntmps6
          go_wp2_with fail
          refine (icontains_any ao len cap V nx w.heap.size _ (by rw [cell_of_row _ _ 0 _ _ _ hal_new]; rfl) hm (HR.out.chg (Chg.alloc (Chg.refl (fun _ => False) w) _) (fun _ _ h => h))).mono ?_
          rintro e w1 ⟨b, rfl, hb, rfl⟩
          have hbt : b = true := hb.2 H5.out
          subst hbt
          clear hb
          go_wp2
          go_ret2
          exact ⟨rfl, (Chg.refl _ _).alloc _⟩
end Go.Proofs.Ytkneldeemlngkaa
