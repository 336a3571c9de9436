/-
  What cmp.Compare, slices.IndexFunc at columns, slices.Clone at columns, copied and may do. No condition beyond each lemma's own.
-/
import Derived.Test.YtpiijcjbphpffaaCRow
import Derived.Sort.Walk0
set_option autoImplicit false
namespace Go.Proofs.Ytpiijcjbphpffaa
open Go Go.RowKit

theorem cmp_any (a b : ByteArray) (w : World) : Calls Try.prog 56 #[.string a, .string b] w fun e w' => e = .returned (.int .i64 (if decide (a.data.toList < b.data.toList) then -1 else if decide (b.data.toList < a.data.toList) then 1 else 0)) ∧ w = w' := by
  have h3 : decide (b.data.toList < a.data.toList) = true → (!a.toList == b.toList) = true := fun h => by
    rw [Lib.toList_data, Lib.toList_data]
    have h := of_decide_eq_true h
    simp
    rintro he
    rw [he] at h
    exact absurd h (List.lt_irrefl _)
  have h4 : decide (a.data.toList < b.data.toList) = false → decide (b.data.toList < a.data.toList) = false → (!a.toList == b.toList) = false := fun h k => by
    rw [Lib.toList_data, Lib.toList_data]
    have h := of_decide_eq_false h
    have k := of_decide_eq_false k
    have := List.le_antisymm (List.not_lt.1 k) (List.not_lt.1 h)
    rw [this]
    simp
  have e1 : decide (a.data.toList < b.data.toList) = Op.bytesLess a.toList b.toList := by rw [bytesLess_eq, Lib.toList_data, Lib.toList_data]
  have e2 : decide (b.data.toList < a.data.toList) = Op.bytesLess b.toList a.toList := by rw [bytesLess_eq, Lib.toList_data, Lib.toList_data]
  rw [e2] at h3
  rw [e1, e2] at h4
  rw [e1, e2]
  clear e1 e2
  cases h1 : Op.bytesLess a.toList b.toList with
  | true =>
    clear h3 h4
    go_enter Try.func56, Try.ntmps56
    go_wp2
    go_ret
    exact ⟨rfl, rfl⟩
  | false =>
    cases h2 : Op.bytesLess b.toList a.toList with
    | true =>
      have h5 := h3 h2
      clear h3 h4
      go_enter Try.func56, Try.ntmps56
      go_wp2
      go_ret
      exact ⟨rfl, rfl⟩
    | false =>
      have h5 := h4 h1 h2
      clear h3 h4
      go_enter Try.func56, Try.ntmps56
      go_wp2
      go_ret
      exact ⟨rfl, rfl⟩
theorem beq_list (a b : ByteArray) : (a == b) = (a.toList == b.toList) := by
  rw [Bool.eq_iff_iff, bytesBeq, Lib.toList_data, Lib.toList_data]
  constructor
  · rintro rfl; simp
  · intro h
    have h : a.data.toList = b.data.toList := by simpa using h
    obtain ⟨⟨x⟩⟩ := a
    obtain ⟨⟨y⟩⟩ := b
    simp at h
    rw [h]
theorem lt_of_cell {w : World} {b o : Nat} {v : Value} (h : w.cell? ⟨b, o, none⟩ = some v) : b < w.heap.size := by
  have := World.block_lt_of_cell? w _ h
  simpa using this
theorem idxG_any (c : Col) (x : ByteArray) (bx : Nat) (w : World) (h : w.cell? ⟨bx, 0, none⟩ = some (.string x)) :
    Calls Try.prog 29 #[.agg #[.string c.name, .int .i64 c.ty, .bool c.nn, .bool c.un], .pointer (some ⟨bx, 0, none⟩)] w fun e w' => e = .returned (.bool (c.name == x)) ∧ Chg (fun _ => False) w w' := by
  go_enter Try.func29, Try.ntmps29
  have hb := lt_of_cell h
  go_wp2
  go_ret
  exact ⟨ret_bool (beq_list _ _).symm, (Chg.refl _ _).alloc _⟩
def idxOf (cs : List Col) (x : ByteArray) : Int := match cs.findIdx? (fun c => c.name == x) with
  | some i => i
  | none => -1
def idxFrom (cs : List Col) (x : ByteArray) (k : Nat) : Prop := ∀ j c, j < k → cs[j]? = some c → (c.name == x) = false
theorem idxOf_hit {cs : List Col} {x : ByteArray} {k : Nat} {c : Col} (h : idxFrom cs x k) (hc : cs[k]? = some c) (hx : (c.name == x) = true) : idxOf cs x = k := by
  unfold idxOf
  obtain ⟨hk, hc'⟩ := List.getElem?_eq_some_iff.1 hc
  have : cs.findIdx? (fun c => c.name == x) = some k := by
    rw [List.findIdx?_eq_some_iff_getElem]
    refine ⟨hk, by rw [hc']; exact hx, fun j hj => ?_⟩
    have := h j cs[j] hj (by simp)
    simp [this]
  rw [this]
theorem idxOf_none {cs : List Col} {x : ByteArray} (h : idxFrom cs x cs.length) : idxOf cs x = -1 := by
  unfold idxOf
  have : cs.findIdx? (fun c => c.name == x) = none := by
    rw [List.findIdx?_eq_none_iff]
    intro c hc
    obtain ⟨j, hj, rfl⟩ := List.getElem_of_mem hc
    exact h j _ hj (by simp)
  rw [this]
set_option maxRecDepth 100000 in
theorem idxF_any (v : Value) (F : Nat → Prop) (cs : List Col) (x : ByteArray) (bx : Nat) (w : World) (hv : ColsAt w F v cs) (hb : w.cell? ⟨bx, 0, none⟩ = some (.string x)) (hm : cs.length ≤ 9223372036854775807) :
    Calls Try.prog 28 #[v, .func (.func 29) #[] #[.pointer (some ⟨bx, 0, none⟩)]] w fun e w' => e = .returned (.int .i64 (idxOf cs x)) ∧ Chg (fun _ => False) w w' := by
  obtain ⟨ao, cap, hve, hp⟩ := hv
  have HV : Hid (ColsAt w F v cs) := Lib.hid ⟨ao, cap, hve, hp⟩
  have HB := Lib.hid hb
  subst hve
  clear hp hb
  go_enter Try.func28, Try.ntmps28
  go_wp2
  go_loopw [8] (fun s wr => ∃ i : Nat, i ≤ cs.length ∧ s = .int .i64 i ∧ Hid (idxFrom cs x i) ∧ Hid (Chg (fun _ => False) w wr)) (fun s _ => cs.length - (intOf s).toNat)
  case atStart => exact ⟨0, Nat.zero_le _, rfl, Lib.hid (fun j c hj => by omega), Lib.hid (Chg.refl _ _)⟩
  case round =>
    obtain ⟨i, hi, rfl, HF, HX⟩ := hrel
    by_cases hlt : i < cs.length
    · obtain ⟨c, hc⟩ : ∃ c, cs[i]? = some c := ⟨_, List.getElem?_eq_getElem hlt⟩
      obtain ⟨b, o, rfl, hbl, _, q0, q1, q2, q3⟩ := ColsAt.col (w := wr) rfl (RowAt.quiet HV.out HX.out) hc
      have HC := Lib.hid hc
      clear hc
      go_wp2_with fail
      refine (idxG_any c x bx _ ((cell_of_heap (HX.out.keep bx (lt_of_cell HB.out) (fun h => h))).trans HB.out)).mono ?_
      rintro e w' ⟨rfl, x1⟩
      have HX' := Lib.hid (HX.out.trans x1 (fun _ h => h.elim))
      clear x1 q0 q1 q2 q3
      cases ho : c.name == x with
      | true =>
        have HO := Lib.hid ho
        clear ho
        go_wp2
        go_ret
        exact ⟨by rw [idxOf_hit HF.out HC.out HO.out]; rfl, HX'.out⟩
      | false =>
        have HO := Lib.hid ho
        clear ho
        go_wp2
        go_roundw
        case rel => exact ⟨i + 1, by omega, by go_num, Lib.hid (fun j d hj hd => by
          by_cases hji : j = i
          · subst hji; rw [HC.out] at hd; obtain rfl := Option.some.inj hd; exact HO.out
          · exact HF.out j d (by omega) hd), HX'⟩
        case measure => simp [intOf]; omega
    · have HE := Lib.hid (show i = cs.length by omega)
      go_wp2
      go_ret
      obtain rfl := HE.out
      exact ⟨by rw [idxOf_none HF.out]; rfl, HX.out⟩

/-! copies -/
set_option maxRecDepth 100000 in
theorem clCols_any (v : Value) (F : Nat → Prop) (cs : List Col) (w : World) (hv : ColsAt w F v cs) (hm : cs.length ≤ 1000000) :
    Calls Try.prog 50 #[v] w fun e w' => ∃ u, e = .returned u ∧ ColsAt w' (fun k => w.heap.size ≤ k) u cs ∧ Chg (fun _ => False) w w' := by
  obtain ⟨ao, cap, rfl, hp⟩ := hv
  have hq := fun w => Lib.run_eql_slice_nil (P := Try.prog) w 25 _ ao cs.length cap 0 0 Try.underlying25
  cases ao with
  | none =>
    have HN := Lib.hid (show cs = [] by
      cases cs with
      | nil => rfl
      | cons c cs => obtain ⟨b, o, h, _⟩ := hp (by simp); cases h)
    clear hp
    go_enter Try.func50, Try.ntmps50
    go_wp2
    go_ret
    obtain rfl := HN.out
    exact ⟨_, rfl, RowAt.nil _ _ _ _, Chg.refl _ _⟩
  | some a =>
    have HV : Hid (ColsAt (w.alloc (.cells #[] 30)) F (.slice (some a) cs.length cap) cs) := Lib.hid (RowAt.quiet ⟨some a, cap, rfl, hp⟩ ((Chg.refl _ _).alloc _))
    have HO : Hid (Own 30 4 (w.alloc (.cells #[] 30)) w.heap.size (.slice (some ⟨w.heap.size, 0, none⟩) 0 0) 0 []) := Lib.hid ⟨World.ownsRow_made w #[] 0 (Nat.zero_le _) (Nat.zero_le _) (by simp), fun g hg => by simp [Value.ownBlock] at hg; omega⟩
    clear hp
    go_enter Try.func50, Try.ntmps50
    go_wp2_with (at_builtin; refine own_app col_ok rfl _ _ rfl w.heap.size _ 0 [] rfl HO.out F _ cs.length (colCells cs) rfl HV.out (colCells_len cs) (colCells_one cs) ?_ ?_ ?_ ?_)
    · unfold maxLen; omega
    · omega
    · simp
    · intro v' w1 r1 g1 hat
      have R1 := Lib.hid r1.read
      have C1 : Hid (Chg (fun _ => False) w w1) := Lib.hid ((((Chg.refl (fun k => w.heap.size ≤ k) w).alloc _).trans g1 (fun x hx => by simp [Value.ownBlock] at hx; omega)).mono (fun x hx => .inr hx))
      clear r1 g1 hat
      go_wp2
      go_ret
      exact ⟨_, rfl, by have := R1.out; simpa using this, C1.out⟩
def tabV (t : Tab) (v : Value) : Value := .agg #[.string t.name, v]
set_option maxRecDepth 100000 in
theorem copied_any (n : ByteArray) (v : Value) (F : Nat → Prop) (cs : List Col) (w : World) (hv : ColsAt w F v cs) (hm : cs.length ≤ 1000000) :
    Calls Try.prog 26 #[.agg #[.string n, v]] w fun e w' => ∃ u, e = .returned (.agg #[.string n, u]) ∧ ColsAt w' (fun k => w.heap.size ≤ k) u cs ∧ Chg (fun _ => False) w w' := by
  obtain ⟨ao, cap, rfl, hp⟩ := hv
  have HV : Hid (ColsAt w F (.slice ao cs.length cap) cs) := Lib.hid ⟨ao, cap, rfl, hp⟩
  clear hp
  go_enter Try.func26, Try.ntmps26
  go_wp2
  obtain ⟨W0, hW0⟩ : ∃ W0, W0 = (w.alloc (.cells #[.string n, .slice ao cs.length cap] 27)).alloc (.cells #[.string ⟨#[]⟩, .slice none 0 0] 27) := ⟨_, rfl⟩
  rw [← hW0]
  have z0 : W0.heap.size = w.heap.size + 2 := by subst hW0; simp
  have b1 : W0.heap[w.heap.size]? = some (.cells #[.string n, .slice ao cs.length cap] 27 (0, 0)) := by subst hW0; rw [hal_old (by simp), hal_new]
  have b2 : W0.heap[w.heap.size + 1]? = some (.cells #[.string ⟨#[]⟩, .slice none 0 0] 27 (0, 0)) := by
    subst hW0
    have := hal_new (w := w.alloc (.cells #[.string n, .slice ao cs.length cap] 27)) (o := .cells #[.string ⟨#[]⟩, .slice none 0 0] 27)
    simpa using this
  have x0 : Chg (fun _ => False) w W0 := by subst hW0; exact ((Chg.refl _ _).alloc _).alloc _
  have e0 := cell_of_row W0 w.heap.size 0 _ _ _ b1
  have e1 := cell_of_row W0 w.heap.size 1 _ _ _ b1
  have B2 := Lib.hid b2; have X0 := Lib.hid x0; have Z0 := Lib.hid z0; have B1 := Lib.hid b1
  clear b1 b2 x0 z0 hW0
  refine wp_region_lex (fun w' => w'.cell? ⟨w.heap.size, 0, none⟩ = some (.string n) ∧ w'.cell? ⟨w.heap.size, 1, none⟩ = some (.slice ao cs.length cap)) 6 [4, 6] [0, 1, 2, 3, 4, 5, 6] (by kernel_rfl) (by kernel_rfl) ⟨e0, e1⟩ ?_
  iterate 4
    refine' lex_free (v := _) rfl rfl rfl ?_ (fun _ _ _ h => h) ?_
    rotate_left
    · rintro W ⟨hW1, hW2⟩
      go_simp
      with_reducible rfl
    try simp only [Act.put, List.setIfInBounds_toArray, List.set_cons_zero, List.set_cons_succ]
  refine lex_op rfl rfl rfl (fun K hK => ?_)
  go_simp
  refine (clCols_any _ F cs W0.drew (RowAt.quiet HV.out X0.out.drew) hm).mono ?_
  rintro e w3 ⟨_, rfl, ⟨a3, k3, rfl, p3⟩, x3⟩
  have R3 : Hid (ColsAt w3 (fun k => W0.drew.heap.size ≤ k) (.slice a3 cs.length k3) cs) := Lib.hid ⟨a3, k3, rfl, p3⟩
  clear p3
  have b3 := x3.heap (w := W0.drew) B1.out (fun h => h)
  have b4 := x3.heap (w := W0.drew) B2.out (fun h => h)
  refine hK _ _ (fun _ => ⟨cell_of_row w3 w.heap.size 0 _ _ _ b3, cell_of_row w3 w.heap.size 1 _ _ _ b3⟩) ?_
  clear hK K
  try simp only [Act.put, List.setIfInBounds_toArray, List.set_cons_zero, List.set_cons_succ]
  iterate 1
    refine' lex_free (v := _) rfl rfl rfl ?_ (fun _ _ _ h => h) ?_
    rotate_left
    · rintro W ⟨hW1, hW2⟩
      go_simp
      with_reducible rfl
    try simp only [Act.put, List.setIfInBounds_toArray, List.set_cons_zero, List.set_cons_succ]
  have m0 := cell_of_row w3 (w.heap.size + 1) 0 _ _ _ b4
  have m1 := cell_of_row w3 (w.heap.size + 1) 1 _ _ _ b4
  have f0 := frozen_of_row w3 (w.heap.size + 1) 0 _ _ b4
  have f1 := frozen_of_row w3 (w.heap.size + 1) 1 _ _ b4
  have B4 := Lib.hid b4; have X3 := Lib.hid x3
  clear b3 b4 x3
  refine lex_op rfl rfl rfl (fun K hK => ?_)
  go_simp
  refine hK _ _ (fun h => absurd rfl h) ?_
  clear hK K
  try simp only [Act.put, List.setIfInBounds_toArray, List.set_cons_zero, List.set_cons_succ]
  refine lex_nil ?_
  go_wp2
  have b5 : ((w3.setCell ⟨w.heap.size + 1, 0, none⟩ (.string n)).setCell ⟨w.heap.size + 1, 1, none⟩ (.slice a3 cs.length k3)).heap[w.heap.size + 1]? = some (.cells #[.string n, .slice a3 cs.length k3] 27 (0, 0)) := by
    rw [hset_eq (hset_eq B4.out)]; rfl
  have x5 : Chg (fun k => w.heap.size ≤ k) w ((w3.setCell ⟨w.heap.size + 1, 0, none⟩ (.string n)).setCell ⟨w.heap.size + 1, 1, none⟩ (.slice a3 cs.length k3)) :=
    (((X0.out.drew.trans X3.out (fun _ h => h.elim)).mono (fun _ h => h.elim)).setCell (p := ⟨w.heap.size + 1, 0, none⟩) (.inl (by simp)) _).setCell (p := ⟨w.heap.size + 1, 1, none⟩) (.inl (by simp)) _
  have r5 := (R3.out.chg (G := fun k => k = w.heap.size + 1) (w' := (w3.setCell ⟨w.heap.size + 1, 0, none⟩ (.string n)).setCell ⟨w.heap.size + 1, 1, none⟩ (.slice a3 cs.length k3)) (((Chg.refl (fun k => k = w.heap.size + 1) w3).setCell (p := ⟨w.heap.size + 1, 0, none⟩) (.inl rfl) _).setCell (p := ⟨w.heap.size + 1, 1, none⟩) (.inl rfl) _)
    (fun k hk hk2 => by have := Z0.out; simp at hk; omega)).mono (G := fun k => w.heap.size ≤ k) (fun k hk _ => by have := Z0.out; simp at hk; omega)
  refine bodyPost_ret (results_big1 Try.results26 _ _ (w.heap.size + 1) [.string n, .slice a3 cs.length k3] _ rfl (range_block b5) Try.underlying27 rfl (by kernel_rfl)) rfl ⟨_, rfl, r5, x5.mono (fun x hx => .inr hx)⟩
end Go.Proofs.Ytpiijcjbphpffaa
