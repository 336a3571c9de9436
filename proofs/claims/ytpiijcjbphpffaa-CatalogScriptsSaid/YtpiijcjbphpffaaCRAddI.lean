/-
  What the document's AddIndex does. No condition beyond each lemma's own.
-/
import Derived.Test.YtpiijcjbphpffaaCRIdx
import Derived.Test.YtpiijcjbphpffaaCBackL
set_option autoImplicit false
namespace Go.Proofs.Ytpiijcjbphpffaa
open Go Go.RowKit
attribute [local go_sem] field_tab0 field_tab1

theorem raddI_nil (n t c : ByteArray) (h : Bool) (w : World) : Calls Try.prog 23 #[.pointer none, .string n, .string t, .string c, .bool h] w fun e w' => e = .returned (.int .i64 2) ∧ w = w' := by
  go_enter Try.func23, Try.ntmps23
  go_wp2
  go_ret
  exact ⟨rfl, rfl⟩
def AddIPost (w : World) (lo r : Nat) (K : Nat → Prop) (vt vi : Value) (C : Cat) (n t c : ByteArray) (b : Bool) (w' : World) : Prop :=
  ∃ vi', RAt w' lo r K vt vi' (C.addI n t c b) ∧ Chg (fun g => g = r ∨ vi.ownBlock = some g) w w' ∧ (∀ g, vi'.ownBlock = some g → vi.ownBlock = some g ∨ w.heap.size ≤ g)
theorem AddIPost.same {w w' : World} {lo r : Nat} {K : Nat → Prop} {vt vi : Value} {C : Cat} {n t c : ByteArray} {b : Bool} (h : RAt w lo r K vt vi C) (h0 : C.addIR n t c ≠ 0) (x : Chg (fun _ => False) w w') : AddIPost w lo r K vt vi C n t c b w' := by
  refine ⟨vi, ?_, x.mono (fun _ h => h.elim), fun g hg => .inl hg⟩
  unfold Cat.addI
  rw [if_neg h0]
  exact h.quiet x
theorem ifind_hit {I : List Ix} {k : Nat} {x : Ix} {n : ByteArray} (hx : I[k]? = some x) (h : (x.name == n) = true) : (ifind I n).isSome = true := by
  cases hh : ifind I n with
  | some _ => rfl
  | none => exact absurd (beq_eq h) (ifind_none hh x (List.mem_of_getElem? hx))
theorem ifind_miss {I : List Ix} {n : ByteArray} (h : ∀ (j : Nat) (x : Ix), j < I.length → I[j]? = some x → (x.name == n) = false) : (ifind I n).isSome = false := by
  rw [ifind_isSome]
  unfold ifind
  rw [List.find?_eq_none]
  intro x hx
  obtain ⟨j, hj, rfl⟩ := List.getElem_of_mem hx
  rw [h j _ hj (by simp)]
  simp
theorem fmr_len {α β : Type} {f : α → List β} {m : Nat} : ∀ {l : List α}, (∀ x ∈ l, (f x).length ≤ m) → (l.flatMap f).length ≤ l.length * m
  | [], _ => by simp
  | x :: l, h => by
    have h1 := fmr_len (l := l) (fun y hy => h y (by simp [hy]))
    have h2 := h x (by simp)
    rw [List.flatMap_cons, List.length_append, List.length_cons, Nat.succ_mul]
    omega
theorem Cat.ok.ilen {C : Cat} (h : C.ok) : C.I.length ≤ 256 := by
  rw [← (ixs_perm h).length_eq]
  unfold Cat.ixs
  have h1 := fmr_len (f := fun t : Tab => C.made t.name) (m := 16) (l := C.tables) (fun t _ => h.made_len t.name)
  have h2 := h.t16
  have h3 := tables_len C
  omega
set_option maxRecDepth 100000 in
set_option maxHeartbeats 4000000 in
theorem raddI_any (lo r : Nat) (K : Nat → Prop) (vt vi : Value) (C : Cat) (n t cn : ByteArray) (b : Bool) (w : World) (h : RAt w lo r K vt vi C) (hn : big n) (hlo : lo ≤ w.heap.size) :
    Calls Try.prog 23 #[.pointer (some ⟨r, 0, none⟩), .string n, .string t, .string cn, .bool b] w fun e w' => e = .returned (.int .i64 (C.addIR n t cn)) ∧ AddIPost w lo r K vt vi C n t cn b w' := by
  obtain ⟨⟨ao, cap, rfl⟩, bo, cap2, rfl⟩ := h.form
  obtain ⟨c0, c1, c2⟩ := h.cells
  have HH := Lib.hid h
  have hil : C.I.length ≤ 9223372036854775807 := h.I.len_le
  have hit := h.ok.t16
  have HIX := Lib.hid h.ixs
  have hstay : ∀ (x : Int) (w' : World), C.addIR n t cn = x → x ≠ 0 → Chg (fun _ => False) w w' → Ending.returned (.int .i64 x) = Ending.returned (.int .i64 (C.addIR n t cn)) ∧ AddIPost w lo r K (.slice ao C.T.length cap) (.slice bo C.I.length cap2) C n t cn b w' := fun x w' hx h0 hc => ⟨by rw [hx], .same HH.out (by rw [hx]; exact h0) hc⟩
  have HST := Lib.hid hstay
  clear h hstay
  cases hnm : nameB n with
  | false =>
    have HN := Lib.hid hnm
    have HR := Lib.hid (show C.addIR n t cn = 1 by unfold Cat.addIR; rw [hnm]; rfl)
    clear hnm
    go_enter Try.func23, Try.ntmps23
    go_wp2_with fail
    refine (rname_any n _ hn).mono ?_
    rw [HN.out]
    rintro e w' ⟨rfl, rfl⟩
    go_wp2
    go_ret
    exact HST.out 1 _ HR.out (by omega) (Chg.refl _ _)
  | true =>
    have HN := Lib.hid hnm
    clear hnm
    go_enter Try.func23, Try.ntmps23
    go_wp2_with fail
    refine (rname_any n _ hn).mono ?_
    rw [HN.out]
    rintro e w' ⟨rfl, rfl⟩
    go_wp2
    go_loop [11] (fun s => ∃ k : Nat, k ≤ C.I.length ∧ s = .int .i64 k ∧ Hid (∀ (j : Nat) (x : Ix), j < k → C.I[j]? = some x → (x.name == n) = false)) (fun s => C.I.length - (intOf s).toNat)
    case atStart => exact ⟨0, Nat.zero_le _, rfl, Lib.hid (fun _ _ h => by omega)⟩
    case round =>
      obtain ⟨k, hk, rfl, HF⟩ := hrel
      by_cases hlt : k < C.I.length
      · obtain ⟨x, hx⟩ : ∃ x, C.I[k]? = some x := ⟨_, List.getElem?_eq_getElem hlt⟩
        obtain ⟨bb, of, rfl, hbl, _, q0, q1, q2, q3⟩ := IxsAt.ix (w := w) rfl HIX.out hx
        have HG := Lib.hid hx
        clear hx q1 q2 q3
        cases h5 : x.name == n with
        | true =>
          have HR := Lib.hid (show C.addIR n t cn = 32 by unfold Cat.addIR; rw [HN.out, ifind_hit HG.out h5]; rfl)
          rw [beq_list] at h5
          go_wp2
          go_ret
          exact HST.out 32 _ HR.out (by omega) (Chg.refl _ _)
        | false =>
          have H5 := Lib.hid h5
          rw [beq_list] at h5
          go_wp2
          go_round
          case rel => exact ⟨k + 1, by omega, by go_num, Lib.hid (fun j c hj hc => by
            by_cases hji : j = k
            · subst hji; rw [HG.out] at hc; obtain rfl := Option.some.inj hc; exact H5.out
            · exact HF.out j c (by omega) hc)⟩
          case measure => simp [intOf]; omega
      · have HIF := Lib.hid (ifind_miss (n := n) (I := C.I) (fun j x hj hx => HF.out j x (by omega) hx))
        clear HF
        cases hf : tfind C.T t with
        | none =>
          have hi := findI_none hf
          have hfd := rfind_at hi HH.out
          have HR := Lib.hid (show C.addIR n t cn = 32 by
            unfold Cat.addIR
            rw [HN.out, HIF.out, show colsOf C.T t = [] by unfold colsOf; rw [hf]]
            rfl)
          clear hf hi
          go_wp2_with fail
          refine hfd.mono ?_
          rintro e w' ⟨rfl, rfl⟩
          clear hfd
          go_wp2
          go_ret
          exact HST.out 32 _ HR.out (by omega) (Chg.refl _ _)
        | some s =>
          obtain ⟨i, hi, hs⟩ := findI_some hf
          have hcs : colsOf C.T t = s.cols := by unfold colsOf; rw [hf]
          have hcl := (mayB_len (HH.out.ok.tm s (tfind_mem hf))).2.1
          have hii := (List.getElem?_eq_some_iff.1 hs).1
          have hfd := rfind_at hi HH.out
          obtain ⟨b0, o0, a1, k1, rfl, hbl, q0, q1, qc⟩ := RAt.tab HH.out hs
          have HCS := Lib.hid hcs; have HQ := Lib.hid qc
          clear hf hi hs hcs qc q0
          go_wp2_with fail
          refine hfd.mono ?_
          rintro e w' ⟨rfl, rfl⟩
          clear hfd
          go_wp2
          go_loop [13] (fun u => ∃ j : Nat, j ≤ s.cols.length ∧ u = .int .i64 j ∧ Hid (idxFrom s.cols cn j)) (fun u => s.cols.length - (intOf u).toNat)
          case atStart => exact ⟨0, Nat.zero_le _, rfl, Lib.hid (fun _ _ h => by omega)⟩
          case round =>
            obtain ⟨j, hj, rfl, HF⟩ := hrel
            by_cases hjl : j < s.cols.length
            · obtain ⟨x, hx⟩ : ∃ x, s.cols[j]? = some x := ⟨_, List.getElem?_eq_getElem hjl⟩
              obtain ⟨b2, o2, rfl, hb2, _, p0, p1, p2, p3⟩ := ColsAt.col (w := w) rfl HQ.out hx
              have HG := Lib.hid hx
              clear hx p1 p2 p3
              cases h5 : x.name == cn with
              | false =>
                have H5 := Lib.hid h5
                rw [beq_list] at h5
                go_wp2
                go_round
                case rel => exact ⟨j + 1, by omega, by go_num, Lib.hid (fun l c hl hc => by
                  by_cases hji : l = j
                  · subst hji; rw [HG.out] at hc; obtain rfl := Option.some.inj hc; exact H5.out
                  · exact HF.out l c (by omega) hc)⟩
                case measure => simp [intOf]; omega
              | true =>
                have HID := Lib.hid (idxOf_hit HF.out HG.out h5)
                have hix : C.addIR n t cn = if 16 ≤ (C.indexes t).length then 20 else 0 := by
                  unfold Cat.addIR
                  rw [HN.out, HIF.out, HCS.out, HID.out, decide_eq_false (show ¬ (j : Int) < 0 by omega)]
                  rfl
                have HX := Lib.hid hix
                rw [beq_list] at h5
                clear hix
                have hlx : (C.indexes t).length ≤ 100 := by
                  have e : (C.indexes t).length = (uniqOf t (colsOf C.T t)).length + (C.made t).length := by unfold Cat.indexes; rw [List.length_append]
                  have a1 := uniqTo_len t (colsOf C.T t) (colsOf C.T t).length
                  have a2 := HH.out.ok.made_len t
                  have a3 := HH.out.ok.cols t
                  unfold uniqOf at e
                  omega
                go_wp2_with fail
                refine (rindexes_any lo r K _ _ C t w HH.out).mono ?_
                rintro e w4 ⟨_, rfl, ⟨ao4, cap4, rfl, _⟩, x4⟩
                have h4 := HH.out.quiet x4
                obtain ⟨e0, e1, e2⟩ := h4.cells
                have H4 := Lib.hid h4; have X4 := Lib.hid x4
                clear x4 h4 c0 c1 e0 p0 q1 h5
                by_cases h16 : 16 ≤ (C.indexes t).length
                · have HR := Lib.hid (show C.addIR n t cn = 20 by rw [HX.out, if_pos h16])
                  go_wp2
                  go_ret
                  exact HST.out 20 _ HR.out (by omega) X4.out
                · have HR := Lib.hid (show C.addIR n t cn = 0 by rw [HX.out, if_neg h16])
                  have hsz4 := X4.out.size
                  have hi256 := HH.out.ok.ilen
                  go_wp2_with (at_builtin; refine own_app ix_ok rfl _ _ rfl lo _ C.I.length (ixCells C.I) rfl (Own.quiet H4.out.I ((Chg.refl _ _).alloc _)) (fun _ => True) _ 1 (Ix.cells ⟨n, t, (j : Int), b⟩) rfl (row_one (hal_new' ?_) trivial) rfl ?_ ?_ ?_ ?_ ?_)
                  · first | rfl | simp
                  · intro u hu
                    exact ixCells_one [_] u (by rw [ixCells_single]; exact hu)
                  · unfold maxLen; omega
                  · omega
                  · first | omega | (simp; omega)
                  · intro v' w9 r9 x9 hat9
                    obtain ⟨ao9, cap9, rfl, _⟩ := r9.form
                    have y9 := ((Chg.refl (fun g => (Value.slice bo C.I.length cap2).ownBlock = some g) w4).alloc (.cells #[.string n, .string t, .int .i64 j, .bool b] 64)).trans x9 (fun k h => .inl h)
                    have b9 := y9.heap H4.out.obj H4.out.ne_i
                    have m1 := cell_of_row w9 r 1 _ _ _ b9
                    have f1 := frozen_of_row w9 r 1 _ _ b9
                    have R9 := Lib.hid r9; have Y9 := Lib.hid y9; have B9 := Lib.hid b9; have HAT9 := Lib.hid hat9
                    clear r9 x9 hat9 y9 b9
                    go_wp2
                    go_ret
                    have hrf := HH.out.rf
                    have hlti : ∀ g, (Value.slice bo C.I.length cap2).ownBlock = some g → g < w.heap.size := fun g hg => (hrf g (.inr (.inr hg))).2
                    have hltt : ∀ g, (Value.slice (some ⟨b0, o0, none⟩) C.T.length cap).ownBlock = some g → g < w.heap.size := fun g hg => (hrf g (.inr (.inl hg))).2
                    have hat9 : ∀ g, (Value.slice ao9 (C.I.length + 1) cap9).ownBlock = some g → (Value.slice bo C.I.length cap2).ownBlock = some g ∨ g = w4.heap.size + 1 := fun g hg => by
                      rcases HAT9.out g hg with h | h
                      · exact .inl h
                      · first | exact .inr h | (simp at h; exact .inr h)
                    have yS : Chg (fun g => g = r ∨ (Value.slice bo C.I.length cap2).ownBlock = some g) w4 (w9.setCell ⟨r, 1, none⟩ (.slice ao9 (C.I.length + 1) cap9)) := ((Y9.out.mono (G := fun g => g = r ∨ (Value.slice bo C.I.length cap2).ownBlock = some g) (fun k hk => .inl (.inr hk))).setCell (p := ⟨r, 1, none⟩) (.inl (.inl rfl)) _)
                    have zS : Chg (fun g => g = r) w9 (w9.setCell ⟨r, 1, none⟩ (.slice ao9 (C.I.length + 1) cap9)) := (Chg.refl (fun g => g = r) w9).setCell (p := ⟨r, 1, none⟩) (.inl rfl) _
                    have hC : C.addI n t cn b = ⟨C.T, C.I ++ [⟨n, t, (j : Int), b⟩]⟩ := by unfold Cat.addI; rw [HR.out, if_pos rfl, HCS.out, HID.out]
                    have hok := HH.out.ok.addI (b := b) HR.out
                    rw [HCS.out, HID.out] at hok
                    refine ⟨by rw [HR.out]; rfl, .slice ao9 (C.I.length + 1) cap9, ?_, (X4.out.mono (fun _ h => h.elim)).trans yS (fun _ h => .inl h), fun g hg => ?_⟩
                    · rw [hC]
                      obtain ⟨us, oT, eT⟩ := H4.out.T
                      refine ⟨by rw [hset_eq B9.out]; rfl, HH.out.r_lo, ⟨us, oT.chg yS ?_, eT.chg yS ?_⟩, ?_, HH.out.ne_t, ?_, ?_, ?_, ?_, hok⟩
                      · intro g hg h
                        rcases h with h | h
                        · exact HH.out.ne_t (h ▸ hg)
                        · exact HH.out.ne g hg h
                      · intro g hk h
                        have := HH.out.out g hk
                        rcases h with h | h
                        · exact this.1 h
                        · exact this.2.2 h
                      · show Own 64 4 _ lo _ (C.I ++ [_]).length (ixCells (C.I ++ [_]))
                        rw [ixCells_app, ixCells_single, List.length_append]
                        refine R9.out.chg zS (fun g hg e => ?_)
                        rcases hat9 g hg with h | h
                        · exact HH.out.ne_i (e ▸ h)
                        · omega
                      · intro h
                        rcases hat9 r h with h | h
                        · exact HH.out.ne_i h
                        · omega
                      · intro g hg h
                        rcases hat9 g h with h1 | h1
                        · exact HH.out.ne g hg h1
                        · have := hltt g hg; omega
                      · intro g hg
                        have h0 := HH.out.out g hg
                        refine ⟨h0.1, h0.2.1, fun h => ?_⟩
                        rcases hat9 g h with h1 | h1
                        · exact h0.2.2 h1
                        · have := HH.out.k_lt g hg; omega
                      · intro g hg
                        have h1 := HH.out.k_lt g hg
                        have h2 := yS.size
                        omega
                    · rcases hat9 g hg with h | h
                      · exact .inl h
                      · exact .inr (by omega)
            · have HR := Lib.hid (show C.addIR n t cn = 32 by
                unfold Cat.addIR
                rw [HN.out, HIF.out, HCS.out, idxOf_none (by have := HF.out; rwa [show j = s.cols.length by omega] at this)]
                rfl)
              go_wp2
              go_ret
              exact HST.out 32 _ HR.out (by omega) (Chg.refl _ _)
end Go.Proofs.Ytpiijcjbphpffaa
