/-
  CatalogBack: of every script. Condition: the script reads as a list of steps whose texts are no longer than the model's greatest length.
-/
import Derived.Test.YtpiijcjbphpffaaCBackL
import Derived.Test.YtpiijcjbphpffaaCReadW
import Derived.Test.YtpiijcjbphpffaaCSame
set_option autoImplicit false
namespace Go.Proofs.Ytpiijcjbphpffaa
open Go Go.RowKit
attribute [local go_sem] field_tab0 field_tab1

/-! a step of a script -/
structure OpR where
  kind : Int
  on : Int
  tn : ByteArray
  cols : List Col
  n : ByteArray
  of_ : ByteArray
  c : ByteArray
  h : Bool
def OpR.cells (o : OpR) (u : Value) : List Value := [.int .i64 o.kind, .int .i64 o.on, .string o.tn, u, .string o.n, .string o.of_, .string o.c, .bool o.h]
def OpsAt (w : World) (F : Nat → Prop) (v : Value) (ops : List OpR) : Prop := ∃ us : List Value, us.length = ops.length ∧ (∀ (i : Nat) (o : OpR) (u : Value), ops[i]? = some o → us[i]? = some u → ColsAt w F u o.cols) ∧ RowAt w F v ops.length ((ops.zip us).flatMap fun p => p.1.cells p.2)
theorem OpsAt.chg {w w' : World} {F G : Nat → Prop} {v : Value} {ops : List OpR} (h : OpsAt w F v ops) (c : Chg G w w') (hd : ∀ k, F k → ¬ G k) : OpsAt w' F v ops := by
  obtain ⟨us, h1, h2, h3⟩ := h
  exact ⟨us, h1, fun i o u ho hu => RowAt.chg (h2 i o u ho hu) c hd, h3.chg c hd⟩
structure OpR.ok (o : OpR) : Prop where
  len : o.cols.length ≤ 9223372036854775807
  tn : big o.tn
  cs : ∀ c ∈ o.cols, big c.name
  n : big o.n
theorem OpsAt.op {w : World} {F : Nat → Prop} {ops : List OpR} {ao : Option Addr} {cap : Nat} (h : OpsAt w F (.slice ao ops.length cap) ops) {i : Nat} {x : OpR} (hi : ops[i]? = some x) :
    ∃ b o a1 k1, ao = some ⟨b, o, none⟩ ∧ b < w.heap.size ∧ F b ∧ w.cell? ⟨b, o + i * 8 + 2, none⟩ = some (.string x.tn) ∧ w.cell? ⟨b, o + i * 8 + 2 + 1, none⟩ = some (.slice a1 x.cols.length k1) ∧ ColsAt w F (.slice a1 x.cols.length k1) x.cols ∧
      w.cell? ⟨b, o + i * 8 + 4, none⟩ = some (.string x.n) ∧ w.cell? ⟨b, o + i * 8 + 5, none⟩ = some (.string x.of_) ∧ w.cell? ⟨b, o + i * 8 + 6, none⟩ = some (.string x.c) ∧ w.cell? ⟨b, o + i * 8 + 7, none⟩ = some (.bool x.h) := by
  obtain ⟨us, h1, h2, ao', cap', hv', hp⟩ := h
  simp only [Value.slice.injEq] at hv'
  obtain ⟨rfl, _, rfl⟩ := hv'
  have hlt := (List.getElem?_eq_some_iff.1 hi).1
  obtain ⟨b, o, rfl, hb, hf, hr⟩ := hp (by omega)
  obtain ⟨u, hu⟩ : ∃ u, us[i]? = some u := ⟨_, List.getElem?_eq_getElem (by omega)⟩
  obtain ⟨a1, k1, rfl, hq⟩ := h2 i x u hi hu
  have hz : (ops.zip us)[i]? = some (x, .slice a1 x.cols.length k1) := by
    rw [List.getElem?_zip_eq_some]
    exact ⟨hi, hu⟩
  have he := range_elem (f := fun p : OpR × Value => p.1.cells p.2) (s := 8) hr (fun _ => rfl) hz
  exact ⟨b, o, a1, k1, rfl, hb, hf, he 2 _ rfl, he 3 _ rfl, ⟨a1, k1, rfl, hq⟩, he 4 _ rfl, he 5 _ rfl, he 6 _ rfl, he 7 _ rfl⟩
/-! a catalog's rows are short -/
theorem fm_len {α β : Type} {f : α → List β} {c : Nat} : ∀ (l : List α), (∀ x ∈ l, (f x).length ≤ c) → (l.flatMap f).length ≤ c * l.length
  | [], _ => by simp
  | x :: l, h => by
    rw [List.flatMap_cons, List.length_append, List.length_cons, Nat.mul_add, Nat.mul_one]
    have h1 := h x (by simp)
    have h2 := fm_len l (fun y hy => h y (by simp [hy]))
    omega
theorem big_name {s : ByteArray} (h : nameB s = true) : big s := by have := (nameB_size h).2; show s.size ≤ _; omega
theorem big_nil : big ⟨#[]⟩ := by show (0 : Nat) ≤ _; omega
theorem rows_ok {C : Cat} (ok : C.ok) : RowsOk C.rows ∧ C.rows.length ≤ 272 := by
  have hT := (byNameT_perm C.T).length_eq
  have h16 := ok.t16
  have hTl : C.tables.length ≤ 16 := by unfold Cat.tables; omega
  have hI : C.ixs.length ≤ 256 := by
    have := fm_len (c := 16) (f := fun t : Tab => C.made t.name) C.tables (fun t _ => ok.made_len t.name)
    unfold Cat.ixs
    omega
  have hlen : C.rows.length ≤ 272 := by rw [C.rows_eq]; simp; omega
  refine ⟨⟨by omega, fun row hrow => ?_⟩, hlen⟩
  rw [C.rows_eq] at hrow
  rcases List.mem_append.1 hrow with h | h
  · obtain ⟨t, ht, rfl⟩ := List.mem_map.1 h
    have hm := mayB_len (ok.tm t ((byNameT_perm C.T).mem_iff.1 ht))
    constructor
    · unfold tabRow
      rw [List.length_append, flatMap_len colVals 4 _ (fun _ _ => rfl)]
      have := hm.2.1
      simp
      omega
    · intro v hv
      unfold tabRow at hv
      rcases List.mem_append.1 hv with hv | hv
      · simp at hv
        rcases hv with rfl | rfl
        · exact big_nil
        · exact big_name hm.2.2.1
      · obtain ⟨c, hc, hv⟩ := List.mem_flatMap.1 hv
        obtain ⟨k, hk, rfl⟩ := List.getElem_of_mem hc
        have ho := colsOk_at hm.2.2.2 (List.getElem?_eq_getElem hk)
        unfold colOk at ho
        simp only [Bool.and_eq_true] at ho
        simp [colVals] at hv
        rcases hv with rfl | rfl | rfl | rfl
        · exact big_name ho.1.1.1
        · exact big_nil
        · exact big_nil
        · exact big_nil
  · obtain ⟨x, hx, rfl⟩ := List.mem_map.1 h
    obtain ⟨hn, t, ht, _⟩ := ok.im x ((ixs_perm ok).mem_iff.1 hx)
    have hb : nameB x.tab = true := by
      rw [← tfind_name ht]
      exact (mayB_len (ok.tm t (tfind_mem ht))).2.2.1
    constructor
    · show 5 ≤ _
      omega
    · intro v hv
      simp [ixRow] at hv
      rcases hv with rfl | rfl | rfl | rfl | rfl
      · exact big_nil
      · exact big_name hn
      · exact big_name hb
      · exact big_nil
      · exact big_nil
set_option maxRecDepth 100000 in
set_option maxHeartbeats 4000000 in
theorem back_any (v : Value) (ops : List OpR) (w : World) (h : OpsAt w (fun g => g < w.heap.size) v ops) (hok : ∀ o ∈ ops, o.ok) (hm : ops.length ≤ 9223372036854775807) :
    Calls Try.prog 6 #[v] w fun e w' => e = .returned (.bool true) ∧ Chg (fun _ => False) w w' := by
  have HOP := Lib.hid h
  obtain ⟨us, _, _, ao, cap, rfl, _⟩ := h
  have HOK := Lib.hid hok
  clear hok
  go_enter Try.func6, Try.ntmps6
  go_wp2_with fail
  refine (awake_any w).mono ?_
  rintro e w0 ⟨rfl, x0⟩
  have X0 := Lib.hid x0
  clear x0
  go_wp2_with fail
  refine (cnew_any w0).mono ?_
  rintro e w1 ⟨r, rfl, h1, x1⟩
  have H1 := Lib.hid h1; have X1 := Lib.hid (X0.out.trans x1 (fun _ h => h.elim)); have X01 := Lib.hid x1
  clear h1 x1
  go_wp2
  go_loopw [4] (fun i wr => ∃ (k : Nat) (C : Cat) (Fc : Nat → Prop), k ≤ ops.length ∧ i = .int .i64 k ∧ Hid (CatAt wr r Fc C) ∧ Hid C.bud ∧ Hid (∀ g, Fc g → w.heap.size ≤ g ∧ g < wr.heap.size) ∧ Hid (Chg (fun _ => False) w wr)) (fun i _ => ops.length - (intOf i).toNat)
  case atStart => exact ⟨0, Cat.empty, _, Nat.zero_le _, rfl, H1, Lib.hid bud_empty, Lib.hid (fun g hg => by rcases hg with hg | hg; exact hg.elim; exact ⟨Nat.le_trans X0.out.size hg.1, hg.2⟩), X1⟩
  case round =>
    obtain ⟨k, C, Fc, hk, rfl, HC, HBu, HF, HX⟩ := hrel
    obtain ⟨wo, rfl⟩ : ∃ wo : World, wo = wr := ⟨_, rfl⟩
    by_cases hlt : k < ops.length
    · obtain ⟨x, hx⟩ : ∃ x, ops[k]? = some x := ⟨_, List.getElem?_eq_getElem hlt⟩
      obtain ⟨b, o, a1, k1, rfl, hb, hbF, q2, q3, hcs, q4, q5, q6, q7⟩ := OpsAt.op (HOP.out.chg HX.out (fun _ _ h => h)) hx
      have hxo := HOK.out x (List.mem_of_getElem? hx)
      have HCS := Lib.hid hcs; have HXO := Lib.hid hxo
      clear hx hcs hxo
      have Q4 := Lib.hid q4; have Q5 := Lib.hid q5; have Q6 := Lib.hid q6; have Q7 := Lib.hid q7
      clear q4 q5 q6 q7
      go_wp2_with fail
      refine (addT_any r Fc (fun g => g < w.heap.size) C ⟨x.tn, x.cols⟩ (.slice a1 x.cols.length k1) wo HC.out HCS.out HXO.out.len HXO.out.tn HXO.out.cs).mono ?_
      rintro e w2 ⟨rfl, h2, x2⟩
      have H2 := Lib.hid h2
      have X2 := Lib.hid ((HX.out.mono (G := fun g => w.heap.size ≤ g) (fun _ h => h.elim)).trans x2 (fun g h => .inl (HF.out g h).1) |>.mono (G := fun _ => False) (fun g hg => .inr hg))
      have hbw : ∀ W, Chg (fun _ => False) w2 W → W.cell? ⟨b, o + k * 8 + 4, none⟩ = some (.string x.n) ∧ W.cell? ⟨b, o + k * 8 + 5, none⟩ = some (.string x.of_) ∧ W.cell? ⟨b, o + k * 8 + 6, none⟩ = some (.string x.c) ∧ W.cell? ⟨b, o + k * 8 + 7, none⟩ = some (.bool x.h) := fun W hW => by
        have hkeep : W.heap[b]? = wo.heap[b]? := (hW.keep b (Nat.lt_of_lt_of_le hb x2.size) (fun h => h)).trans (x2.keep b hb (fun h => by have := (HF.out b h).1; omega))
        exact ⟨(cell_of_heap hkeep).trans Q4.out, (cell_of_heap hkeep).trans Q5.out, (cell_of_heap hkeep).trans Q6.out, (cell_of_heap hkeep).trans Q7.out⟩
      have HBW := Lib.hid hbw
      have z2 := x2.size
      have hwo : w.heap.size ≤ wo.heap.size := HX.out.size
      have HF2 := Lib.hid (fun g (hg : Ext Fc wo w2 g) => (by
        rcases hg with hg | hg
        · have := HF.out g hg; exact ⟨this.1, by omega⟩
        · exact ⟨by omega, hg.2⟩ : w.heap.size ≤ g ∧ g < w2.heap.size))
      have HB2 := Lib.hid (HBu.out.addT HC.out.ok ⟨x.tn, x.cols⟩)
      clear h2 x2 hbw q2 q3
      go_wp2_with fail
      refine wp_region_lex (fun W => W.cell? ⟨b, o + k * 8 + 4, none⟩ = some (.string x.n) ∧ W.cell? ⟨b, o + k * 8 + 5, none⟩ = some (.string x.of_) ∧ W.cell? ⟨b, o + k * 8 + 6, none⟩ = some (.string x.c) ∧ W.cell? ⟨b, o + k * 8 + 7, none⟩ = some (.bool x.h)) 21 [21] [0, 1, 2, 3, 4, 5, 6, 7, 8, 9, 10, 11, 12, 13, 14, 15, 16, 17, 18, 19, 20, 21] (by kernel_rfl) (by kernel_rfl) (HBW.out _ (Chg.refl _ _).drew) ?_
      iterate 21
        refine' lex_free (v := _) rfl rfl rfl ?_ (fun _ _ _ h => h) ?_
        rotate_left
        · rintro W ⟨hW1, hW2, hW3, hW4⟩
          go_simp
          with_reducible rfl
        try simp only [Act.put, List.setIfInBounds_toArray, List.set_cons_zero, List.set_cons_succ]
      refine lex_op rfl rfl rfl (fun K hK => ?_)
      go_simp
      refine (addI_any r (Ext Fc wo w2) (C.addT ⟨x.tn, x.cols⟩) x.n x.of_ x.c x.h w2.drew (H2.out.quiet (Chg.refl _ _).drew) HXO.out.n).mono ?_
      rintro e w3 ⟨rfl, h3, x3⟩
      have H3 := Lib.hid h3
      have X3 := Lib.hid ((X2.out.drew.mono (G := fun g => w.heap.size ≤ g) (fun _ h => h.elim)).trans x3 (fun g h => .inl (HF2.out g h).1) |>.mono (G := fun _ => False) (fun g hg => .inr hg))
      have z3 : w2.heap.size ≤ w3.heap.size := x3.size
      clear h3 x3
      refine hK _ _ (fun h => absurd rfl h) ?_
      clear hK K
      try simp only [Act.put, List.setIfInBounds_toArray, List.set_cons_zero, List.set_cons_succ]
      refine lex_nil ?_
      go_wp2
      go_roundw
      case rel => exact ⟨k + 1, _, Ext Fc wo w2, by omega, by go_num, H3, Lib.hid (HB2.out.addI _ _ _ _), Lib.hid (fun g hg => ⟨(HF2.out g hg).1, by have := (HF2.out g hg).2; omega⟩), X3⟩
      case measure => simp [intOf]; omega
    · have hro := rows_ok HC.out.ok
      have HRT := Lib.hid (read_turned HC.out.ok HBu.out)
      have HLK := Lib.hid (turned_like HC.out.ok)
      have HTW := Lib.hid (fun row (h : C.rows[0]? = some row) => read_twice HC.out.ok h)
      have HLR := Lib.hid (HLK.out.rows HC.out.ok)
      have HLI := Lib.hid (fun n => HLK.out.indexes HC.out.ok n)
      have h272 := hro.2
      have HRO := Lib.hid hro.1
      clear hro
      go_wp2_with fail
      refine (rows_any r Fc C wo HC.out).mono ?_
      rintro e w5 ⟨_, rfl, ⟨us5, hus5, a5, c5, rfl, hp5⟩, x5⟩
      have HV5 := Lib.hid ((show RowsAt w5 (fun k => wo.heap.size ≤ k) (.slice a5 C.rows.length c5) C.rows from ⟨us5, hus5, a5, c5, rfl, hp5⟩).mono (G := fun k => k < w5.heap.size) (fun k _ hl => hl))
      have X5 := Lib.hid x5
      clear hus5 hp5 x5
      generalize hrs : C.rows = rows at *
      have HRS := Lib.hid hrs
      clear hrs
      go_wp2
      go_loopw [6, 7] (fun s i wr => ∃ m : Nat, m ≤ rows.length ∧ i = .int .i64 ((m : Int) - 1) ∧ Hid (Rws wr 0 s (rows.reverse.take (rows.length - m))) ∧ Hid (∀ g, s.ownBlock = some g → w5.heap.size ≤ g) ∧ Hid (Chg (fun _ => False) w5 wr)) (fun _ i _ => (intOf i + 1).toNat)
      case atStart => exact ⟨rows.length, Nat.le_refl _, rfl, Lib.hid (by simpa using Rws.nil _ _), Lib.hid (fun g hg => by simp [Value.ownBlock] at hg), Lib.hid (Chg.refl _ _)⟩
      case round =>
        obtain ⟨m, hm2, rfl, HW, HOW, HXW⟩ := hrel
        obtain ⟨wp, rfl⟩ : ∃ wp : World, wp = wr := ⟨_, rfl⟩
        have hln : (rows.reverse.take (rows.length - m)).length = rows.length - m := by rw [List.length_take, List.length_reverse]; omega
        obtain ⟨aw, cw, rfl⟩ := HW.out.form hln
        have HLN := Lib.hid hln
        clear hln
        by_cases hm0 : 0 < m
        · obtain ⟨q, rfl⟩ : ∃ q, m = q + 1 := ⟨m - 1, by omega⟩
          obtain ⟨row, hrow⟩ : ∃ row, rows[q]? = some row := ⟨_, List.getElem?_eq_getElem (by omega)⟩
          have hq := HV5.out.quiet HXW.out
          obtain ⟨us, hus, a6, k6, he6, hp6⟩ := hq
          simp only [Value.slice.injEq] at he6
          obtain ⟨rfl, _, rfl⟩ := he6
          obtain ⟨b6, o6, rfl, hb6, _, hr6⟩ := hp6 (by omega)
          obtain ⟨u, hu⟩ : ∃ u, us[q]? = some u := ⟨_, List.getElem?_eq_getElem (by rw [hus.1]; omega)⟩
          have hcell := hr6 q u hu
          have hval := hus.2 q row u hrow hu
          have HVAL := Lib.hid hval
          have HROW := Lib.hid hrow
          obtain ⟨au, cu, rfl, _⟩ := hval.1
          have h56 : w5.heap.size ≤ wp.heap.size := HXW.out.size
          clear hr6 hp6 hus hu hrow hval
          have hsub : ((q + 1 : Nat) : Int) - 1 = q := by omega
          rw [hsub]
          have HSUB := Lib.hid hsub
          clear hsub
          go_wp2_with (at_builtin; refine rws_app rfl _ _ rfl 0 _ (rows.reverse.take (rows.length - (q + 1))) (rows.length - (q + 1)) HLN.out rfl (Rws.quiet HW.out ((Chg.refl _ _).alloc _)) _ (.slice au row.length cu) row rfl hal_new ?_ HVAL.out.2 ?_ ?_ ?_)
          · exact (RowAt.mono HVAL.out.1 (G := fun g => ¬ (Value.slice aw (rows.length - (q + 1)) cw).ownBlock = some g) (fun g hg _ => fun h => by have := HOW.out g h; omega)).quiet ((Chg.refl _ _).alloc _)
          · omega
          · intro ao9 c9 w9 r9 x9 hat
            have HW9 : Hid (Rws w9 0 (.slice ao9 (rows.length - (q + 1) + 1) c9) (rows.reverse.take (rows.length - q))) := Lib.hid (by
              have e : rows.length - q = rows.length - (q + 1) + 1 := by omega
              rw [e, List.take_add_one]
              have hg : rows.reverse[rows.length - (q + 1)]? = some row := by
                rw [List.getElem?_reverse (by omega)]
                rw [show rows.length - 1 - (rows.length - (q + 1)) = q by omega]
                exact HROW.out
              rw [hg]
              exact r9)
            have HX9 := Lib.hid ((((HXW.out.alloc (.cells #[.slice au row.length cu] 53)).mono (G := fun g => w5.heap.size ≤ g) (fun _ h => h.elim)).trans x9 (fun g h => .inl (HOW.out g h))).mono (G := fun _ => False) (fun g hg => .inr hg))
            have HO9 := Lib.hid (fun g (hg : (Value.slice ao9 (rows.length - (q + 1) + 1) c9).ownBlock = some g) => (by
              rcases hat g hg with h | h
              · exact HOW.out g h
              · first | omega | (simp at h; omega) : w5.heap.size ≤ g))
            clear r9 x9 hat
            go_wp2
            go_roundw
            case rel => exact ⟨q, by omega, by first | rfl | go_num, HW9, HO9, HX9⟩
            case measure => first | (simp [intOf]; done) | (simp [intOf]; omega)
        · obtain rfl : m = 0 := by omega
          have HWF : Hid (Rws wp 0 (.slice aw rows.length cw) rows.reverse) := Lib.hid (by
            have := HW.out
            rw [Nat.sub_zero] at this
            rw [show rows.reverse.take rows.length = rows.reverse by rw [List.take_of_length_le]; simp] at this
            exact this)
          have HCp := Lib.hid (HC.out.quiet (X5.out.trans HXW.out (fun _ h => h.elim)))
          have HXp := Lib.hid (HX.out.trans (X5.out.trans HXW.out (fun _ h => h.elim)) (fun _ h => h.elim))
          have HVp := Lib.hid (HV5.out.quiet HXW.out)
          have HROW2 : Hid (RowsAt wp (fun g => g < wp.heap.size) (.slice aw rows.length cw) rows.reverse) := Lib.hid (HWF.out.read.mono (fun g _ hl => hl))
          have hok2 : RowsOk rows.reverse := ⟨by rw [List.length_reverse]; omega, fun row hr => HRO.out.each row (List.mem_reverse.1 hr)⟩
          have HRD := Lib.hid (read_any _ _ wp HROW2.out hok2)
          clear hok2
          simp only [Nat.sub_zero] at *
          go_wp2_with fail
          refine HRD.out.mono ?_
          rw [HRT.out]
          rintro e w6 ⟨⟨r2, rfl, h6⟩, x6⟩
          have H6 := Lib.hid h6; have X6 := Lib.hid x6
          clear h6 x6
          go_wp2_with fail
          refine (rows_any r2 _ C.turned w6 H6.out).mono ?_
          rintro e w7 ⟨v7, rfl, h7, x7⟩
          rw [HLR.out] at h7
          have XA7 := Lib.hid x7
          have H7 := Lib.hid h7; have X7 := Lib.hid (X6.out.trans x7 (fun _ h => h.elim))
          clear h7 x7
          go_wp2_with fail
          refine (sameRows_any v7 _ _ _ rows w7 H7.out (HVp.out.quiet X7.out) (by omega) (fun row hr => by have := (HRO.out.each row hr).1; omega)).mono ?_
          rintro e w8 ⟨rfl, x8⟩
          have X8 := Lib.hid (X7.out.trans x8 (fun _ h => h.elim)); have XA8 := Lib.hid (XA7.out.trans x8 (fun _ h => h.elim))
          clear x8
          go_wp2_with fail
          refine (tables_any r Fc C w8 (HCp.out.quiet X8.out)).mono ?_
          rintro e w9 ⟨_, rfl, h9, x9⟩
          have H9 := Lib.hid h9; have X9 := Lib.hid (X8.out.trans x9 (fun _ h => h.elim)); have XA9 := Lib.hid (XA8.out.trans x9 (fun _ h => h.elim))
          have h16 : C.tables.length ≤ 16 := by
            have := HC.out.ok.t16
            unfold Cat.tables
            rw [(byNameT_perm _).length_eq]; exact this
          have HOK2 := Lib.hid HC.out.ok
          obtain ⟨ust, het, at_, ct, rfl, hpt⟩ := h9
          clear het hpt x9
          generalize hts : C.tables = ts at *
          have HTS := Lib.hid hts
          clear hts
          go_wp2
          go_loopw [11] (fun i wr => ∃ j : Nat, j ≤ ts.length ∧ i = .int .i64 j ∧ Hid (Chg (fun _ => False) w9 wr)) (fun i _ => ts.length - (intOf i).toNat)
          case atStart => exact ⟨0, Nat.zero_le _, rfl, Lib.hid (Chg.refl _ _)⟩
          case round =>
            obtain ⟨j, hj, rfl, HXJ⟩ := hrel
            obtain ⟨wq, rfl⟩ : ∃ wq : World, wq = wr := ⟨_, rfl⟩
            by_cases hjt : j < ts.length
            · obtain ⟨t, ht⟩ : ∃ t, ts[j]? = some t := ⟨_, List.getElem?_eq_getElem hjt⟩
              obtain ⟨bt, ot, a1, k1, rfl, hbt, _, q0, _, _⟩ := TabsAt.tab (TabsAt.quiet H9.out HXJ.out) ht
              have Q0 := Lib.hid q0
              clear ht q0
              have hS : ∀ W, Chg (fun _ => False) wq W → W.cell? ⟨bt, ot + j * 2, none⟩ = some (.string t.name) := fun W hW => (cell_of_heap (hW.keep bt hbt (fun h => h))).trans Q0.out
              have HS := Lib.hid hS
              clear hS
              go_wp2
              refine wp_region_lex (fun W => W.cell? ⟨bt, ot + j * 2, none⟩ = some (.string t.name)) 15 [6, 13, 14, 15] [0, 1, 2, 3, 4, 5, 7, 8, 9, 10, 11, 12, 6, 13, 14, 15] (by kernel_rfl) (by kernel_rfl) (HS.out _ (Chg.refl _ _).drew) ?_
              iterate 12
                refine' lex_free (v := _) rfl rfl rfl ?_ (fun _ _ _ h => h) ?_
                rotate_left
                · rintro W hW1
                  go_simp
                  with_reducible rfl
                try simp only [Act.put, List.setIfInBounds_toArray, List.set_cons_zero, List.set_cons_succ]
              refine lex_op rfl rfl rfl (fun K hK => ?_)
              go_simp
              refine (indexes_any r Fc C t.name wq.drew (HCp.out.quiet ((X9.out.trans HXJ.out (fun _ h => h.elim)).drew))).mono ?_
              rintro e y1 ⟨v1, rfl, i1, s1⟩
              have I1 := Lib.hid i1; have Y1 := Lib.hid ((Chg.refl (fun _ => False) wq).drew.trans s1 (fun _ h => h.elim))
              clear i1 s1
              refine hK _ _ (fun _ => HS.out _ Y1.out) ?_
              clear hK K
              try simp only [Act.put, List.setIfInBounds_toArray, List.set_cons_zero, List.set_cons_succ]
              refine lex_op rfl rfl rfl (fun K hK => ?_)
              go_simp
              refine (indexes_any r2 _ C.turned t.name y1 (H6.out.quiet ((XA9.out.trans HXJ.out (fun _ h => h.elim)).trans Y1.out (fun _ h => h.elim)))).mono ?_
              rw [HLI.out]
              rintro e y2 ⟨v2, rfl, i2, s2⟩
              have I2 := Lib.hid i2; have Y2 := Lib.hid (Y1.out.trans s2 (fun _ h => h.elim)); have S2 := Lib.hid s2
              clear i2 s2
              refine hK _ _ (fun _ => HS.out _ Y2.out) ?_
              clear hK K
              try simp only [Act.put, List.setIfInBounds_toArray, List.set_cons_zero, List.set_cons_succ]
              refine lex_op rfl rfl rfl (fun K hK => ?_)
              go_simp
              refine (sameIx_any v1 v2 _ _ (C.indexes t.name) y2 (RowAt.quiet I1.out S2.out) I2.out (by
                unfold Cat.indexes
                rw [List.length_append]
                have a1 := uniqOf_len t.name (colsOf C.T t.name)
                have a2 := HOK2.out.cols t.name
                have a3 := HOK2.out.made_len t.name
                omega)).mono ?_
              rintro e y3 ⟨rfl, s3⟩
              have Y3 := Lib.hid (Y2.out.trans s3 (fun _ h => h.elim))
              clear s3
              refine hK _ _ (fun _ => HS.out _ Y3.out) ?_
              clear hK K
              try simp only [Act.put, List.setIfInBounds_toArray, List.set_cons_zero, List.set_cons_succ]
              refine lex_op rfl rfl rfl (fun K hK => ?_)
              go_simp
              refine hK _ _ (fun h => absurd rfl h) ?_
              clear hK K
              try simp only [Act.put, List.setIfInBounds_toArray, List.set_cons_zero, List.set_cons_succ]
              refine lex_nil ?_
              go_wp2
              go_roundw
              case rel => exact ⟨j + 1, by omega, by go_num, Lib.hid (HXJ.out.trans Y3.out (fun _ h => h.elim))⟩
              case measure => simp [intOf]; omega
            · have HXE := Lib.hid (X9.out.trans HXJ.out (fun _ h => h.elim))
              by_cases hr0 : rows.length = 0
              · go_wp2
                go_ret
                exact ⟨rfl, HXp.out.trans HXE.out (fun _ h => h.elim)⟩
              · have hpos : 0 < rows.length := by omega
                obtain ⟨row, hrow⟩ : ∃ row, rows[0]? = some row := ⟨_, List.getElem?_eq_getElem hpos⟩
                have hq := HV5.out.quiet (HXW.out.trans HXE.out (fun _ h => h.elim))
                obtain ⟨us2, hus, a6, k6, he6, hp6⟩ := hq
                simp only [Value.slice.injEq] at he6
                obtain ⟨rfl, _, rfl⟩ := he6
                obtain ⟨b6, o6, rfl, hb6, _, hr6⟩ := hp6 (by omega)
                obtain ⟨u, hu⟩ : ∃ u, us2[0]? = some u := ⟨_, List.getElem?_eq_getElem (by rw [hus.1]; exact hpos)⟩
                have hcell : wq.cell? ⟨b6, o6, none⟩ = some u := hr6 0 u hu
                have HVAL := Lib.hid (hus.2 0 row u hrow hu)
                have HNO := Lib.hid (HTW.out row hrow)
                have hmemr := Lib.hid (List.mem_of_getElem? hrow)
                obtain ⟨au, cu, rfl, _⟩ := (hus.2 0 row u hrow hu).1
                have h5q : w5.heap.size ≤ wq.heap.size := Nat.le_trans HXW.out.size HXE.out.size
                clear hr6 hp6 hus hu hrow
                go_wp2_with (at_builtin; refine rws_app rfl _ _ rfl 0 _ rows.reverse rows.length (by simp) rfl (Rws.quiet HWF.out (HXE.out.alloc _)) _ (.slice au row.length cu) row rfl hal_new ?_ HVAL.out.2 ?_ ?_ ?_)
                · exact (RowAt.mono HVAL.out.1 (G := fun g => ¬ (Value.slice aw rows.length cw).ownBlock = some g) (fun g hg _ => fun h => by have := HOW.out g h; omega)).quiet ((Chg.refl _ _).alloc _)
                · omega
                · intro ao9 c9 w10 r10 x10 hat
                  have HW10 : Hid (RowsAt w10 (fun g => g < w10.heap.size) (.slice ao9 (rows.length + 1) c9) (rows.reverse ++ [row])) := Lib.hid (r10.read.mono (fun g _ hl => hl))
                  have hok3 : RowsOk (rows.reverse ++ [row]) := ⟨by simp; omega, fun y hy => by
                    rcases List.mem_append.1 hy with hy | hy
                    · exact HRO.out.each y (List.mem_reverse.1 hy)
                    · simp at hy; subst hy; exact HRO.out.each _ hmemr.out⟩
                  have HRD3 := Lib.hid (read_any _ _ w10 HW10.out hok3)
                  have HX10 := Lib.hid ((((HXp.out.trans HXE.out (fun _ h => h.elim)).alloc (.cells #[.slice au row.length cu] 53)).mono (G := fun g => w.heap.size ≤ g) (fun _ h => h.elim)).trans x10 (fun g h => .inl (by have := HOW.out g h; have := HX.out.size; have := X5.out.size; omega)) |>.mono (G := fun _ => False) (fun g hg => .inr hg))
                  clear hok3 r10 x10 hat hcell
                  go_wp2_with fail
                  refine HRD3.out.mono ?_
                  rw [HNO.out]
                  rintro e w11 ⟨rfl, x11⟩
                  have X11 := Lib.hid (HX10.out.trans x11 (fun _ h => h.elim))
                  clear x11
                  go_wp2
                  go_ret
                  exact ⟨rfl, X11.out⟩
end Go.Proofs.Ytpiijcjbphpffaa
