/-
  print.Expr: a tree's text. Conditions: the tree is one that can be printed, no higher than 32; the library's variables stand.
-/
import Derived.Test.YtnbckfkdmkbopaaGreatDoorTH46
set_option autoImplicit false
namespace Go.Proofs.YtnbckfkdmkbopaaGreatDoor
open Go Go.RowKit

def kidS (l : List Ex) : List Value := l.map fun y => sv (opS y)
theorem kidS_one (l : List Ex) : ∀ u ∈ kidS l, u.oneCell' = true := by
  intro u hu
  obtain ⟨y, _, rfl⟩ := List.mem_map.1 hu
  rfl
theorem cat_ret {b : ByteArray} {l : Str} (h : b.data.toList = l) : Ending.returned (.string b) = .returned (sv l) := by
  subst h
  simp
/-- what a round of the loop over the kids leaves -/
structure PInv (w : World) (E : ExF) (x : Ex) (j : Nat) (u : Value) (wr : World) : Prop where
  c : Chg NoB w wr
  box : wr.heap[w.heap.size]? = some E.obj
  own : Own 9 1 wr (w.heap.size + 1) u j (kidS (x.kids.take j))
/-- behind the loop, and the two empty ones -/
structure PFin (w : World) (E : ExF) (x : Ex) (b o : Nat) (wr : World) : Prop where
  c : Chg NoB w wr
  box : wr.heap[w.heap.size]? = some E.obj
  row : wr.rangeAt b o (kidS x.kids ++ [sv [], sv []])
theorem Ex.kid_ok {x y : Ex} {j : Nat} (h : PrintOk x) (hy : x.kids[j]? = some y) : PrintOk y := by
  have hm := List.mem_of_getElem? hy
  cases x <;> simp [Ex.kids] at hm
  · subst hm; exact h.2
  · rcases hm with rfl | rfl
    · exact h.2.1
    · exact h.2.2
theorem sgn_0 (w : World) : (Instr.index 92 (.agg #[.string ⟨#[43]⟩, .string ⟨#[45]⟩, .string ⟨#[42]⟩, .string ⟨#[47]⟩, .string ⟨#[37]⟩, .string ⟨#[61]⟩, .string ⟨#[60, 62]⟩, .string ⟨#[60]⟩, .string ⟨#[60, 61]⟩, .string ⟨#[62]⟩, .string ⟨#[62, 61]⟩, .string ⟨#[65, 78, 68]⟩, .string ⟨#[79, 82]⟩]) (.int .i64 0)).run Tryz.prog w = .ok (.string ⟨#[43]⟩) w := by kernel_rfl
theorem sgn_1 (w : World) : (Instr.index 92 (.agg #[.string ⟨#[43]⟩, .string ⟨#[45]⟩, .string ⟨#[42]⟩, .string ⟨#[47]⟩, .string ⟨#[37]⟩, .string ⟨#[61]⟩, .string ⟨#[60, 62]⟩, .string ⟨#[60]⟩, .string ⟨#[60, 61]⟩, .string ⟨#[62]⟩, .string ⟨#[62, 61]⟩, .string ⟨#[65, 78, 68]⟩, .string ⟨#[79, 82]⟩]) (.int .i64 1)).run Tryz.prog w = .ok (.string ⟨#[45]⟩) w := by kernel_rfl
theorem sgn_2 (w : World) : (Instr.index 92 (.agg #[.string ⟨#[43]⟩, .string ⟨#[45]⟩, .string ⟨#[42]⟩, .string ⟨#[47]⟩, .string ⟨#[37]⟩, .string ⟨#[61]⟩, .string ⟨#[60, 62]⟩, .string ⟨#[60]⟩, .string ⟨#[60, 61]⟩, .string ⟨#[62]⟩, .string ⟨#[62, 61]⟩, .string ⟨#[65, 78, 68]⟩, .string ⟨#[79, 82]⟩]) (.int .i64 2)).run Tryz.prog w = .ok (.string ⟨#[42]⟩) w := by kernel_rfl
theorem sgn_3 (w : World) : (Instr.index 92 (.agg #[.string ⟨#[43]⟩, .string ⟨#[45]⟩, .string ⟨#[42]⟩, .string ⟨#[47]⟩, .string ⟨#[37]⟩, .string ⟨#[61]⟩, .string ⟨#[60, 62]⟩, .string ⟨#[60]⟩, .string ⟨#[60, 61]⟩, .string ⟨#[62]⟩, .string ⟨#[62, 61]⟩, .string ⟨#[65, 78, 68]⟩, .string ⟨#[79, 82]⟩]) (.int .i64 3)).run Tryz.prog w = .ok (.string ⟨#[47]⟩) w := by kernel_rfl
theorem sgn_4 (w : World) : (Instr.index 92 (.agg #[.string ⟨#[43]⟩, .string ⟨#[45]⟩, .string ⟨#[42]⟩, .string ⟨#[47]⟩, .string ⟨#[37]⟩, .string ⟨#[61]⟩, .string ⟨#[60, 62]⟩, .string ⟨#[60]⟩, .string ⟨#[60, 61]⟩, .string ⟨#[62]⟩, .string ⟨#[62, 61]⟩, .string ⟨#[65, 78, 68]⟩, .string ⟨#[79, 82]⟩]) (.int .i64 4)).run Tryz.prog w = .ok (.string ⟨#[37]⟩) w := by kernel_rfl
theorem sgn_5 (w : World) : (Instr.index 92 (.agg #[.string ⟨#[43]⟩, .string ⟨#[45]⟩, .string ⟨#[42]⟩, .string ⟨#[47]⟩, .string ⟨#[37]⟩, .string ⟨#[61]⟩, .string ⟨#[60, 62]⟩, .string ⟨#[60]⟩, .string ⟨#[60, 61]⟩, .string ⟨#[62]⟩, .string ⟨#[62, 61]⟩, .string ⟨#[65, 78, 68]⟩, .string ⟨#[79, 82]⟩]) (.int .i64 5)).run Tryz.prog w = .ok (.string ⟨#[61]⟩) w := by kernel_rfl
theorem sgn_6 (w : World) : (Instr.index 92 (.agg #[.string ⟨#[43]⟩, .string ⟨#[45]⟩, .string ⟨#[42]⟩, .string ⟨#[47]⟩, .string ⟨#[37]⟩, .string ⟨#[61]⟩, .string ⟨#[60, 62]⟩, .string ⟨#[60]⟩, .string ⟨#[60, 61]⟩, .string ⟨#[62]⟩, .string ⟨#[62, 61]⟩, .string ⟨#[65, 78, 68]⟩, .string ⟨#[79, 82]⟩]) (.int .i64 6)).run Tryz.prog w = .ok (.string ⟨#[60, 62]⟩) w := by kernel_rfl
theorem sgn_7 (w : World) : (Instr.index 92 (.agg #[.string ⟨#[43]⟩, .string ⟨#[45]⟩, .string ⟨#[42]⟩, .string ⟨#[47]⟩, .string ⟨#[37]⟩, .string ⟨#[61]⟩, .string ⟨#[60, 62]⟩, .string ⟨#[60]⟩, .string ⟨#[60, 61]⟩, .string ⟨#[62]⟩, .string ⟨#[62, 61]⟩, .string ⟨#[65, 78, 68]⟩, .string ⟨#[79, 82]⟩]) (.int .i64 7)).run Tryz.prog w = .ok (.string ⟨#[60]⟩) w := by kernel_rfl
theorem sgn_8 (w : World) : (Instr.index 92 (.agg #[.string ⟨#[43]⟩, .string ⟨#[45]⟩, .string ⟨#[42]⟩, .string ⟨#[47]⟩, .string ⟨#[37]⟩, .string ⟨#[61]⟩, .string ⟨#[60, 62]⟩, .string ⟨#[60]⟩, .string ⟨#[60, 61]⟩, .string ⟨#[62]⟩, .string ⟨#[62, 61]⟩, .string ⟨#[65, 78, 68]⟩, .string ⟨#[79, 82]⟩]) (.int .i64 8)).run Tryz.prog w = .ok (.string ⟨#[60, 61]⟩) w := by kernel_rfl
theorem sgn_9 (w : World) : (Instr.index 92 (.agg #[.string ⟨#[43]⟩, .string ⟨#[45]⟩, .string ⟨#[42]⟩, .string ⟨#[47]⟩, .string ⟨#[37]⟩, .string ⟨#[61]⟩, .string ⟨#[60, 62]⟩, .string ⟨#[60]⟩, .string ⟨#[60, 61]⟩, .string ⟨#[62]⟩, .string ⟨#[62, 61]⟩, .string ⟨#[65, 78, 68]⟩, .string ⟨#[79, 82]⟩]) (.int .i64 9)).run Tryz.prog w = .ok (.string ⟨#[62]⟩) w := by kernel_rfl
theorem sgn_10 (w : World) : (Instr.index 92 (.agg #[.string ⟨#[43]⟩, .string ⟨#[45]⟩, .string ⟨#[42]⟩, .string ⟨#[47]⟩, .string ⟨#[37]⟩, .string ⟨#[61]⟩, .string ⟨#[60, 62]⟩, .string ⟨#[60]⟩, .string ⟨#[60, 61]⟩, .string ⟨#[62]⟩, .string ⟨#[62, 61]⟩, .string ⟨#[65, 78, 68]⟩, .string ⟨#[79, 82]⟩]) (.int .i64 10)).run Tryz.prog w = .ok (.string ⟨#[62, 61]⟩) w := by kernel_rfl
theorem sgn_11 (w : World) : (Instr.index 92 (.agg #[.string ⟨#[43]⟩, .string ⟨#[45]⟩, .string ⟨#[42]⟩, .string ⟨#[47]⟩, .string ⟨#[37]⟩, .string ⟨#[61]⟩, .string ⟨#[60, 62]⟩, .string ⟨#[60]⟩, .string ⟨#[60, 61]⟩, .string ⟨#[62]⟩, .string ⟨#[62, 61]⟩, .string ⟨#[65, 78, 68]⟩, .string ⟨#[79, 82]⟩]) (.int .i64 11)).run Tryz.prog w = .ok (.string ⟨#[65, 78, 68]⟩) w := by kernel_rfl
theorem sgn_12 (w : World) : (Instr.index 92 (.agg #[.string ⟨#[43]⟩, .string ⟨#[45]⟩, .string ⟨#[42]⟩, .string ⟨#[47]⟩, .string ⟨#[37]⟩, .string ⟨#[61]⟩, .string ⟨#[60, 62]⟩, .string ⟨#[60]⟩, .string ⟨#[60, 61]⟩, .string ⟨#[62]⟩, .string ⟨#[62, 61]⟩, .string ⟨#[65, 78, 68]⟩, .string ⟨#[79, 82]⟩]) (.int .i64 12)).run Tryz.prog w = .ok (.string ⟨#[79, 82]⟩) w := by kernel_rfl
attribute [local go_sem ↓] sgn_0 sgn_1 sgn_2 sgn_3 sgn_4 sgn_5 sgn_6 sgn_7 sgn_8 sgn_9 sgn_10 sgn_11 sgn_12
theorem wrap_small : IntKind.i64.wrap 0 = 0 ∧ IntKind.i64.wrap 1 = 1 ∧ IntKind.i64.wrap 2 = 2 ∧ IntKind.i64.wrap 3 = 3 ∧ IntKind.i64.wrap 4 = 4 ∧ IntKind.i64.wrap 5 = 5 ∧ IntKind.i64.wrap 6 = 6 ∧ IntKind.i64.wrap 7 = 7 ∧ IntKind.i64.wrap 8 = 8 ∧ IntKind.i64.wrap 9 = 9 ∧ IntKind.i64.wrap 10 = 10 ∧ IntKind.i64.wrap 11 = 11 ∧ IntKind.i64.wrap 12 = 12 := ⟨by kernel_rfl, by kernel_rfl, by kernel_rfl, by kernel_rfl, by kernel_rfl, by kernel_rfl, by kernel_rfl, by kernel_rfl, by kernel_rfl, by kernel_rfl, by kernel_rfl, by kernel_rfl, by kernel_rfl⟩
set_option maxRecDepth 100000 in
set_option maxHeartbeats 4000000 in
theorem print_any : ∀ (n : Nat) (x : Ex) (E : ExF) (F : Nat → Prop) (w : World), x.hgt ≤ n → n ≤ 32 → PrintOk x → ExAt w F x E → GlobT w →
    Calls Tryz.prog 14 #[E.val] w fun e w' => e = .returned (sv (printL x)) ∧ Chg NoB w w' := by
  intro n
  induction n with
  | zero => intro x E F w h; cases x <;> simp [Ex.hgt] at h
  | succ n ih =>
    intro x E F w hn hN hok hx hg
    obtain ⟨hm, hk⟩ := hx.kid
    have HX := Lib.hid hx
    obtain ⟨ek, evk, evn, evs, et, en, es, ao, m, c⟩ := E
    simp only at hm hk
    subst hm
    have HK := Lib.hid hk
    have HI := Lib.hid ih
    have HG := Lib.hid hg
    have HOK := Lib.hid hok
    have hl : x.kids.length ≤ 2 := by cases x <;> simp [Ex.kids]
    have P0 : Hid (PInv w ⟨ek, evk, evn, evs, et, en, es, ao, x.kids.length, c⟩ x 0 (.slice none 0 0) (w.alloc (ExF.obj ⟨ek, evk, evn, evs, et, en, es, ao, x.kids.length, c⟩))) := Lib.hid ⟨(Chg.refl _ _).alloc _, hal_new, Own.nil _ _ _ _⟩
    have e7 : (w.alloc (ExF.obj ⟨ek, evk, evn, evs, et, en, es, ao, x.kids.length, c⟩)).cell? ⟨w.heap.size, 7, none⟩ = some (.slice ao x.kids.length c) := cell_of_row _ _ 7 _ _ _ P0.out.box
    clear hx hk ih hg hok
    go_enter Tryz.func14, Tryz.ntmps14
    go_wp2_with fail
    go_loopw [3, 10] (fun l i wr => ∃ j : Nat, i = .int .i64 j ∧ j ≤ x.kids.length ∧ ∃ u, l = u ∧ Hid (PInv w ⟨ek, evk, evn, evs, et, en, es, ao, x.kids.length, c⟩ x j u wr)) (fun _ i _ => (x.kids.length - intOf i).toNat)
    case atStart => exact ⟨0, rfl, Nat.zero_le _, _, rfl, P0⟩
    case round =>
      obtain ⟨j, rfl, hj, u, rfl, HJ⟩ := hrel
      obtain ⟨uo, uc, rfl, _⟩ := HJ.out.own.form
      clear e7
      by_cases hlt : j < x.kids.length
      · obtain ⟨y, hy⟩ : ∃ y, x.kids[j]? = some y := ⟨_, List.getElem?_eq_getElem (by omega)⟩
        obtain ⟨b, A, rfl, hb, hF, hr, hxa⟩ := HK.out j y hy
        have hr' := range_of_heap (HJ.out.c.keep b hb (fun h => h)) hr
        obtain ⟨a0, a1, a2, a3, a4, a5, a6, a7⟩ := ex_range hr'
        have hyl := Ex.kid_lt hy
        have HYK := Lib.hid (Ex.kid_ok HOK.out hy)
        have HTK : Hid (kidS (x.kids.take (j + 1)) = kidS (x.kids.take j) ++ [sv (opS y)]) := Lib.hid (by rw [List.take_add_one, hy]; simp [kidS])
        have XA : Hid (Chg NoB w (wr.alloc A.obj)) := Lib.hid (HJ.out.c.trans ((Chg.refl _ _).alloc _) (fun _ h => .inl h))
        have HOP : Hid (Calls Tryz.prog 34 #[A.val] (wr.alloc A.obj) fun e w' => e = .returned (sv (opS y)) ∧ Chg NoB (wr.alloc A.obj) w') := Lib.hid
          (opnd_any y A F _ (hxa.quiet XA.out) HYK.out (by omega) fun W c => HI.out y A F W (by omega) (by omega) HYK.out (hxa.quiet (XA.out.trans c (fun _ h => .inl h))) (HG.out.quiet (XA.out.trans c (fun _ h => .inl h))))
        clear hy hr hr' hxa
        go_wp2_with fail
        refine HOP.out.mono ?_
        rintro e w2 ⟨rfl, c2⟩
        have C2 : Hid (Chg NoB wr w2) := Lib.hid (((Chg.refl NoB wr).alloc A.obj).trans c2 (fun _ h => .inl h))
        have O2 := Lib.hid (HJ.out.own.quiet C2.out)
        have s2 : w.heap.size + 1 ≤ w2.heap.size := by have := C2.out.size; have := lt_of_heap HJ.out.box; omega
        clear c2 a0 a1 a2 a3 a4 a5 a6 a7
        go_wp2_with (at_builtin; refine own_app str_ok rfl _ _ rfl (w.heap.size + 1) _ j (kidS (x.kids.take j)) rfl (Own.quiet O2.out ((Chg.refl _ _).alloc _)) (fun _ => True) _ 1 [sv (opS y)] rfl (row_one (hal_new' ?_) trivial) rfl ?_ ?_ ?_ ?_ ?_)
        · simp
        · intro q hq; simp at hq; subst hq; rfl
        · unfold maxLen; omega
        · omega
        · simp; omega
        · intro v9 w9 r9 x9 nb9
          obtain ⟨ao9, cap9, rfl, _⟩ := r9.form
          have y9 := ((Chg.refl (fun g => (Value.slice uo j uc).ownBlock = some g) w2).alloc (.cells #[sv (opS y)] 9)).trans x9 (fun k h => .inl h)
          have lo9 : ∀ g, (Value.slice uo j uc).ownBlock = some g → w.heap.size + 1 ≤ g := fun g hg => HJ.out.own.lo g hg
          have HO : Hid (PInv w ⟨ek, evk, evn, evs, et, en, es, some ⟨b, 0, none⟩, x.kids.length, c⟩ x (j + 1) (.slice ao9 (j + 1) cap9) w9) := Lib.hid
            ⟨(HJ.out.c.trans C2.out (fun _ h => .inl h)).trans y9 (fun g e => .inr (by have := lo9 g e; omega)), y9.heap (C2.out.heap HJ.out.box (fun h => h)) (fun e => by have := lo9 _ e; omega), by rw [HTK.out]; exact r9⟩
          clear r9 x9 y9 nb9 lo9
          go_wp2_with fail
          go_round
          case rel => exact ⟨j + 1, by go_num, by omega, _, rfl, HO⟩
          case measure => simp [intOf]; omega
      · obtain rfl : j = x.kids.length := by omega
        have O2 := Lib.hid HJ.out.own
        have s2 : w.heap.size + 1 ≤ wr.heap.size := by have := lt_of_heap HJ.out.box; omega
        go_wp2_with (at_builtin; refine own_app str_ok rfl _ _ rfl (w.heap.size + 1) _ x.kids.length (kidS (x.kids.take x.kids.length)) rfl (Own.quiet O2.out ((Chg.refl _ _).alloc _)) (fun _ => True) _ 2 [sv [], sv []] rfl ⟨_, 2, rfl, fun _ => ⟨_, 0, rfl, by simp, trivial, range_block hal_new⟩⟩ rfl ?_ ?_ ?_ ?_ ?_)
        · intro q hq; simp at hq; subst hq; rfl
        · unfold maxLen; omega
        · omega
        · simp; omega
        · intro v9 w9 r9 x9 nb9
          obtain ⟨ao9, cap9, e9, hh9⟩ := r9.read
          obtain ⟨b9, o9, rfl, _, _, hr9⟩ := hh9 (by omega)
          subst e9
          have y9 := ((Chg.refl (fun g => (Value.slice uo x.kids.length uc).ownBlock = some g) wr).alloc (.cells #[.string ⟨#[]⟩, .string ⟨#[]⟩] 9)).trans x9 (fun k h => .inl h)
          have lo9 : ∀ g, (Value.slice uo x.kids.length uc).ownBlock = some g → w.heap.size + 1 ≤ g := fun g hg => HJ.out.own.lo g hg
          have PF : Hid (PFin w ⟨ek, evk, evn, evs, et, en, es, ao, x.kids.length, c⟩ x b9 o9 w9) := Lib.hid
            ⟨HJ.out.c.trans y9 (fun g e => .inr (by have := lo9 g e; omega)), y9.heap HJ.out.box (fun e => by have := lo9 _ e; omega), hr9⟩
          clear r9 x9 y9 nb9 lo9 hr9 hh9 HJ O2 P0
          have HC := Lib.hid PF.out.c
          obtain ⟨q0, q1, q2, q3, q4, q5, q6, q7⟩ := ExCells.of PF.out.box
          have HROW := Lib.hid PF.out.row
          have HX2 := HX.out
          clear PF HX HK
          cases x with
          | slot _ => exact HOK.out.elim
          | cnt => exact HOK.out.elim
          | val v =>
            simp only [ExAt, ExF.mk.injEq] at HX2
            obtain ⟨rfl, rfl, rfl, rfl, rfl, rfl, rfl, rfl, _, rfl⟩ := HX2
            have HSH : Hid (Calls Tryz.prog 35 #[v.val] w9 fun e w' => e = .returned (sv (showL v)) ∧ Chg NoB w9 w') := Lib.hid (show_any v HOK.out w9 (HG.out.quiet HC.out))
            go_wp2_with fail
            refine HSH.out.mono ?_
            rintro e w10 ⟨rfl, c10⟩
            have C10 := Lib.hid (HC.out.trans c10 (fun _ h => .inl h))
            clear c10 q0 q1 q2 q3 q4 q5 q6 q7
            go_wp2_with fail
            go_ret
            exact ⟨rfl, C10.out⟩
          | col t nm =>
            simp only [ExAt, ExF.mk.injEq] at HX2
            obtain ⟨rfl, rfl, rfl, rfl, rfl, rfl, rfl, rfl, _, rfl⟩ := HX2
            have hn32 : en.length ≤ 32 := HOK.out.2.2.2.2.2.2
            have ht32 : et.length ≤ 32 := by rcases HOK.out.1 with h | h; (subst h; exact Nat.zero_le _); exact h.2.2.2.2.2
            have hr32 : ∀ m : Nat, m ≤ 10 → ¬ (9223372036854775807 < et.length + m) := fun m hm => by omega
            have hr33 : ∀ m : Nat, m ≤ 10 → ¬ (9223372036854775807 < et.length + m + en.length) := fun m hm => by omega
            cases et with
            | nil =>
              go_wp2_with fail
              go_ret
              exact ⟨rfl, HC.out⟩
            | cons c0 r0 =>
              have ht : r0.length ≤ 31 := by simpa using ht32
              clear hr32 hr33
              go_wp2_with fail
              go_ret
              exact ⟨cat_ret (by simp [printL]), HC.out⟩
          | un k a =>
            obtain ⟨b1, c1, A1, hE, _⟩ := HX2
            simp only [ExF.mk.injEq] at hE
            obtain ⟨rfl, rfl, rfl, rfl, rfl, rfl, rfl, rfl, _, rfl⟩ := hE
            have k0 : w9.cell? ⟨b9, o9, none⟩ = some (sv (opS a)) := HROW.out 0 _ rfl
            have hla : (opS a).length ≤ 1000000000002 := opS_len HOK.out.2 (by have : a.hgt + 1 ≤ n + 1 := hn; omega)
            have hk := HOK.out.1
            clear HROW HI
            rcases hk with rfl | rfl | rfl | rfl
            · go_wp2_with fail
              go_ret
              exact ⟨cat_ret (by simp [printL, opS]), HC.out⟩
            · go_wp2_with fail
              go_ret
              exact ⟨cat_ret (by simp [printL, opS, sNOT]), HC.out⟩
            · go_wp2_with fail
              go_ret
              exact ⟨cat_ret (by simp [printL, opS, sIS, sNULL]), HC.out⟩
            · go_wp2_with fail
              go_ret
              exact ⟨cat_ret (by simp [printL, opS, sIS, sNULL, sNOT]), HC.out⟩
          | bin k a a2 =>
            obtain ⟨b1, c1, A1, B1, hE, _⟩ := HX2
            simp only [ExF.mk.injEq] at hE
            obtain ⟨rfl, rfl, rfl, rfl, rfl, rfl, rfl, rfl, _, rfl⟩ := hE
            have k0 : w9.cell? ⟨b9, o9, none⟩ = some (sv (opS a)) := HROW.out 0 _ rfl
            have k1 : w9.cell? ⟨b9, o9 + 1, none⟩ = some (sv (opS a2)) := HROW.out 1 _ rfl
            have hh : max a.hgt a2.hgt + 1 ≤ n + 1 := hn
            have hla : (opS a).length ≤ 1000000000002 := opS_len HOK.out.2.1 (by omega)
            have hlb : (opS a2).length ≤ 1000000000002 := opS_len HOK.out.2.2 (by omega)
            have hk := op_cases HOK.out.1
            have n1 : ∀ m : Nat, m ≤ 10 → ¬ (9223372036854775807 < (opS a).length + m) := fun m hm => by omega
            have n2 : ∀ m : Nat, m ≤ 10 → ¬ (9223372036854775807 < (opS a).length + m + (opS a2).length) := fun m hm => by omega
            obtain ⟨w_0, w_1, w_2, w_3, w_4, w_5, w_6, w_7, w_8, w_9, w_10, w_11, w_12⟩ := wrap_small
            clear HROW HI hh
            rcases hk with rfl | rfl | rfl | rfl | rfl | rfl | rfl | rfl | rfl | rfl | rfl | rfl | rfl
            all_goals
              go_wp2_with fail
              go_quiet (fail)
              go_wp2_with fail
              go_ret
              exact ⟨cat_ret (by simp [printL, opS, signOf, sAND, sOR]), HC.out.drewN _⟩
end Go.Proofs.YtnbckfkdmkbopaaGreatDoor
