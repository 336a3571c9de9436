/-
  Plans: the search for an index. No condition beyond each lemma's own.
-/
import Derived.Test.YtnbckfkdmkbopaaGreatDoorTH40
set_option autoImplicit false
namespace Go.Proofs.YtnbckfkdmkbopaaGreatDoor
open Go Go.RowKit

def BoolOut (w : World) (e : Ending) (w' : World) : Prop := ∃ b : Bool, e = .returned (.bool b) ∧ Chg NoB w w'
def IntOut (w : World) (e : Ending) (w' : World) : Prop := ∃ n : Int, e = .returned (.int .i64 n) ∧ Chg NoB w w'
/-- an index -/
structure IdxR where
  name : Str
  tab : Str
  col : Int
  hash : Bool
def IdxR.cells (x : IdxR) : List Value := [sv x.name, sv x.tab, .int .i64 x.col, .bool x.hash]
abbrev IdxR.val (x : IdxR) : Value := .agg #[sv x.name, sv x.tab, .int .i64 x.col, .bool x.hash]
def idxCells (l : List IdxR) : List Value := l.flatMap IdxR.cells
abbrev IdxsAt (w : World) (F : Nat → Prop) (v : Value) (l : List IdxR) : Prop := RowAt w F v l.length (idxCells l)
/-- a test of hash -/
structure MayF (f : Nat) : Prop where
  enters : ∀ args w, (callFunc f args).run Tryz.prog w = .ok (.enter f args) w
  calls : ∀ (b : Bool) (w : World), Calls Tryz.prog f #[.bool b] w (BoolOut w)
theorem may2 : MayF 23 := ⟨fun _ _ => by kernel_rfl, fun b w => by
  go_enter Tryz.func23, Tryz.ntmps23
  go_wp2
  go_ret
  exact ⟨b, rfl, Chg.refl _ _⟩⟩
theorem may3 : MayF 24 := ⟨fun _ _ => by kernel_rfl, fun b w => by
  go_enter Tryz.func24, Tryz.ntmps24
  go_wp2
  go_ret
  exact ⟨true, rfl, Chg.refl _ _⟩⟩
theorem may4 : MayF 26 := ⟨fun _ _ => by kernel_rfl, fun b w => by
  go_enter Tryz.func26, Tryz.ntmps26
  go_wp2
  go_ret
  exact ⟨_, rfl, Chg.refl _ _⟩⟩
theorem choose11_any (f : Nat) (hf : MayF f) (x : IdxR) (c : Int) (bc bm : Nat) (w : World) (hc : w.cell? ⟨bc, 0, none⟩ = some (.int .i64 c)) (hm : w.cell? ⟨bm, 0, none⟩ = some (.func (.func f) #[] #[])) :
    Calls Tryz.prog 22 #[x.val, .pointer (some ⟨bc, 0, none⟩), .pointer (some ⟨bm, 0, none⟩)] w (BoolOut w) := by
  have ef := hf.enters
  have HF := Lib.hid hf
  have lc := lt_of_cell hc
  have lm := lt_of_cell hm
  by_cases h : x.col = c
  · have b1 : (x.col == c) = true := by simpa using h
    clear h hf
    go_enter Tryz.func22, Tryz.ntmps22
    go_wp2_with fail
    refine (HF.out.calls x.hash _).mono ?_
    rintro e w2 ⟨b, rfl, c2⟩
    have X2 := Lib.hid (((Chg.refl NoB w).alloc (.cells #[sv x.name, sv x.tab, .int .i64 x.col, .bool x.hash] 73)).trans c2 (fun _ h => h.elim))
    clear c2
    go_wp2_with fail
    go_ret
    exact ⟨b, rfl, X2.out⟩
  · have b1 : (x.col == c) = false := by simpa using h
    clear h hf
    go_enter Tryz.func22, Tryz.ntmps22
    go_wp2_with fail
    go_ret
    exact ⟨false, rfl, (Chg.refl _ _).alloc _⟩
set_option maxRecDepth 100000 in
set_option maxHeartbeats 1000000 in
theorem indexIx_any (f : Nat) (hf : MayF f) (l : List IdxR) (F : Nat → Prop) (ao : Option Addr) (cap : Nat) (hm : l.length ≤ 100000000000000) (c : Int) (bc bm : Nat) (w : World) (h : IdxsAt w F (.slice ao l.length cap) l) (hc : w.cell? ⟨bc, 0, none⟩ = some (.int .i64 c)) (hb : w.cell? ⟨bm, 0, none⟩ = some (.func (.func f) #[] #[])) :
    Calls Tryz.prog 21 #[.slice ao l.length cap, .func (.func 22) #[] #[.pointer (some ⟨bc, 0, none⟩), .pointer (some ⟨bm, 0, none⟩)]] w (IntOut w) := by
  have H := Lib.hid h
  have HF := Lib.hid hf
  have HC := Lib.hid hc
  have HB := Lib.hid hb
  have lc := lt_of_cell hc
  have lm := lt_of_cell hb
  clear h hf hc hb
  go_enter Tryz.func21, Tryz.ntmps21
  go_wp2_with fail
  go_loopw [8] (fun i wr => Hid (Chg NoB w wr) ∧ ∃ j : Nat, i = .int .i64 j ∧ j ≤ l.length) (fun i _ => (l.length - intOf i).toNat)
  case atStart => exact ⟨Lib.hid (Chg.refl _ _), 0, rfl, Nat.zero_le _⟩
  case round =>
    obtain ⟨HX, j, rfl, hj⟩ := hrel
    by_cases hlt : j < l.length
    · obtain ⟨x, hx⟩ : ∃ x, l[j]? = some x := ⟨_, List.getElem?_eq_getElem hlt⟩
      obtain ⟨ao', cap', e, hh⟩ := H.out
      obtain ⟨b, o, rfl, hbl, hF, hr⟩ := hh (by omega)
      cases e
      have hr2 := range_elem (s := 4) hr (fun _ => rfl) hx
      have hr3 := range_of_heap (HX.out.keep b hbl (fun h => h)) hr2
      have a0 : wr.cell? ⟨b, o + j * 4, none⟩ = some (sv x.name) := hr3 0 _ rfl
      have a1 : wr.cell? ⟨b, o + j * 4 + 1, none⟩ = some (sv x.tab) := hr3 1 _ rfl
      have a2 : wr.cell? ⟨b, o + j * 4 + 2, none⟩ = some (.int .i64 x.col) := hr3 2 _ rfl
      have a3 : wr.cell? ⟨b, o + j * 4 + 3, none⟩ = some (.bool x.hash) := hr3 3 _ rfl
      have HC2 : Hid (wr.cell? ⟨bc, 0, none⟩ = some (.int .i64 c)) := Lib.hid ((cell_of_heap (HX.out.keep bc lc (fun h => h))).trans HC.out)
      have HB2 : Hid (wr.cell? ⟨bm, 0, none⟩ = some (.func (.func f) #[] #[])) := Lib.hid ((cell_of_heap (HX.out.keep bm lm (fun h => h))).trans HB.out)
      clear hr hr2 hr3 hx hh
      go_wp2_with fail
      refine (choose11_any f HF.out x c bc bm wr HC2.out HB2.out).mono ?_
      rintro e w2 ⟨b2, rfl, c2⟩
      have X2 := Lib.hid (HX.out.trans c2 (fun _ h => h.elim))
      clear c2
      cases b2 with
      | true =>
        go_wp2_with fail
        go_ret
        exact ⟨_, rfl, X2.out⟩
      | false =>
        go_wp2_with fail
        go_round
        case rel => exact ⟨X2, j + 1, by go_num, by omega⟩
        case measure => simp [intOf]; omega
    · obtain rfl : j = l.length := by omega
      go_wp2_with fail
      go_ret
      exact ⟨-1, rfl, HX.out⟩
set_option maxRecDepth 100000 in
set_option maxHeartbeats 1000000 in
theorem choose1_any (f : Nat) (hf : MayF f) (l : List IdxR) (F : Nat → Prop) (ao : Option Addr) (cap : Nat) (hm : l.length ≤ 100000000000000) (c : Int) (bi bc : Nat) (w : World) (h : IdxsAt w F (.slice ao l.length cap) l) (hi : w.cell? ⟨bi, 0, none⟩ = some (.slice ao l.length cap)) (hc : w.cell? ⟨bc, 0, none⟩ = some (.int .i64 c)) :
    Calls Tryz.prog 20 #[.func (.func f) #[] #[], .pointer (some ⟨bi, 0, none⟩), .pointer (some ⟨bc, 0, none⟩)] w (IntOut w) := by
  have hmf : ∀ (fn : Fn) (first cap : Array Value) (w : World), (Instr.makeFunc fn first cap).run Tryz.prog w = .ok (.func fn first cap) w := fun _ _ _ _ => rfl
  have li := lt_of_cell hi
  have lc := lt_of_cell hc
  have C1 : Hid (Chg NoB w (w.alloc (.cells #[.func (.func f) #[] #[]] 70))) := Lib.hid ((Chg.refl _ _).alloc _)
  have H1 := Lib.hid (RowAt.quiet h C1.out)
  have HC1 : Hid ((w.alloc (.cells #[.func (.func f) #[] #[]] 70)).cell? ⟨bc, 0, none⟩ = some (.int .i64 c)) := Lib.hid ((cell_of_heap (hal_old lc)).trans hc)
  have HB1 : Hid ((w.alloc (.cells #[.func (.func f) #[] #[]] 70)).cell? ⟨w.heap.size, 0, none⟩ = some (.func (.func f) #[] #[])) := Lib.hid (cell_of_row _ _ 0 _ _ _ hal_new)
  have HF := Lib.hid hf
  clear h hf
  go_enter Tryz.func20, Tryz.ntmps20
  go_wp2_with fail
  refine (indexIx_any f HF.out l F ao cap hm c bc w.heap.size _ H1.out HC1.out HB1.out).mono ?_
  rintro e w2 ⟨n, rfl, c2⟩
  have X2 := Lib.hid (C1.out.trans c2 (fun _ h => h.elim))
  clear c2
  go_wp2_with fail
  go_ret
  exact ⟨n, rfl, X2.out⟩
end Go.Proofs.YtnbckfkdmkbopaaGreatDoor
