/-
  What Read does. Condition: the rows are as long as may be read.
-/
import Derived.Test.YtpiijcjbphpffaaCReadT
set_option autoImplicit false
namespace Go.Proofs.Ytpiijcjbphpffaa
open Go Go.RowKit
attribute [local go_sem] field_val0 field_val1 field_val2 field_tab0 field_tab1

structure RowsOk (rows : List (List Val)) : Prop where
  len : rows.length ≤ 6000000000000
  each : ∀ row ∈ rows, row.length ≤ 4400000000000 ∧ ∀ v ∈ row, big v.str
def ReadPost (w : World) (o : Option Cat) (e : Ending) (w' : World) : Prop := (match o with
  | some C => ∃ r, e = .returned (.tuple #[.pointer (some ⟨r, 0, none⟩), .int .i64 0]) ∧ CatAt w' r (fun k => w.heap.size ≤ k) C
  | none => e = .returned (.tuple #[.pointer none, .int .i64 6])) ∧ Chg (fun _ => False) w w'
set_option maxRecDepth 100000 in
set_option maxHeartbeats 4000000 in
theorem read_any (v : Value) (rows : List (List Val)) (w : World) (h : RowsAt w (fun g => g < w.heap.size) v rows) (hok : RowsOk rows) :
    Calls Try.prog 15 #[v] w (ReadPost w (readC rows)) := by
  obtain ⟨us, hus, ao, cap, rfl, hp⟩ := h
  have HU := Lib.hid hus
  have HV : Hid (RowAt w (fun g => g < w.heap.size) (.slice ao rows.length cap) rows.length us) := Lib.hid ⟨ao, cap, rfl, hp⟩
  have HOK := Lib.hid hok
  have hlen := hok.len
  have HR := Lib.hid (rfl : readC rows = readC rows)
  clear hus hp hok
  go_enter Try.func15, Try.ntmps15
  go_wp2_with fail
  refine (cnew_any w).mono ?_
  rintro e w1 ⟨r, rfl, h1, x1⟩
  have H1 := Lib.hid h1; have X1 := Lib.hid x1
  clear h1 x1
  go_wp2
  go_loopw [5, 21] (fun s i wr => ∃ (k : Nat) (C : Cat) (L : List Rd) (bs : List Nat) (Fc : Nat → Prop), k ≤ rows.length ∧ i = .int .i64 k ∧ bs.length ≤ k ∧ Hid (foldO tabStep (Cat.empty, []) (rows.take k) = some (C, L)) ∧ Hid (CatAt wr r Fc C) ∧ Hid (∀ g, Fc g → w.heap.size ≤ g ∧ g < wr.heap.size) ∧
      Hid (Later wr w.heap.size s bs L) ∧ Hid (∀ b ∈ bs, ¬ Fc b) ∧ Hid (∀ g, s.ownBlock = some g → ¬ Fc g) ∧ Hid (∀ R ∈ L, R.big ∧ R.l.length ≤ 4400000000000) ∧ Hid (Chg (fun _ => False) w wr)) (fun _ i _ => rows.length - (intOf i).toNat)
  case atStart =>
    exact ⟨0, Cat.empty, [], [], _, Nat.zero_le _, rfl, Nat.le_refl _, Lib.hid rfl, H1, Lib.hid (fun g hg => by rcases hg with hg | hg; exact hg.elim; exact hg), Lib.hid (Later.nil _ _), Lib.hid (fun b hb => by simp at hb), Lib.hid (fun g hg => by simp [Value.ownBlock] at hg), Lib.hid (fun R hR => by simp at hR), X1⟩
  case round =>
    obtain ⟨k, C, L, bs, Fc, hk, rfl, hbk, HS, HC, HFc, HL, HB, HO, HLL, HX⟩ := hrel
    obtain ⟨wo, rfl⟩ : ∃ wo : World, wo = wr := ⟨_, rfl⟩
    obtain ⟨ao1, cap1, rfl, hao1⟩ := HL.out.own.form
    clear hao1
    by_cases hlt : k < rows.length
    · obtain ⟨row, hrow⟩ : ∃ row, rows[k]? = some row := ⟨_, List.getElem?_eq_getElem hlt⟩
      obtain ⟨u, hu⟩ : ∃ u, us[k]? = some u := ⟨_, List.getElem?_eq_getElem (by rw [HU.out.1]; exact hlt)⟩
      obtain ⟨⟨a2, k2, rfl, hp2⟩, hcap⟩ := HU.out.2 k row u hrow hu
      have hcap := hcap _ _ _ rfl
      have hq := RowAt.quiet HV.out HX.out
      obtain ⟨a3, k3, he3, hp3⟩ := hq
      simp only [Value.slice.injEq] at he3
      obtain ⟨rfl, _, rfl⟩ := he3
      obtain ⟨b3, o3, rfl, hb3, _, hr3⟩ := hp3 (by omega)
      have hcell := hr3 k _ hu
      have HVR : Hid (ValsAt w (fun g => g < w.heap.size) (.slice a2 row.length k2) row) := Lib.hid ⟨a2, k2, rfl, hp2⟩
      have HROW := Lib.hid hrow
      have hrl := (HOK.out.each row (List.mem_of_getElem? hrow)).1
      have HRB := Lib.hid (HOK.out.each row (List.mem_of_getElem? hrow)).2
      clear hp2 hp3 hr3 hrow hu
      go_wp2_with fail
      obtain ⟨W2, hW2⟩ : ∃ W2, W2 = wo.alloc (.cells #[.slice a2 row.length k2, .bool false] 83) := ⟨_, rfl⟩
      have x2 : Chg (fun _ => False) wo W2 := by subst hW2; exact (Chg.refl _ _).alloc _
      have z2 : W2.heap.size = wo.heap.size + 1 := by subst hW2; simp
      have r2 : RdAt W2 (fun g => g < w.heap.size) wo.heap.size ⟨row, false⟩ := ⟨a2, k2, by subst hW2; exact hal_new, hcap, RowAt.quiet HVR.out (HX.out.trans x2 (fun _ h => h.elim))⟩
      have X2 := Lib.hid x2; have Z2 := Lib.hid z2; have R2 := Lib.hid r2; have HW2 := Lib.hid hW2
      have hwo : w.heap.size ≤ wo.heap.size := HX.out.size
      clear x2 z2 r2 hW2 hcell
      rw [← HW2.out]
      refine (flag_any wo.heap.size _ ⟨row, false⟩ W2 R2.out (by omega) (by show row.length ≤ _; omega)).mono ?_
      rintro e w3 ⟨rfl, r3, x3⟩
      have R3 := Lib.hid r3; have X3 := Lib.hid x3
      have HL3 := Lib.hid ((HL.out.chg X2.out (fun _ _ h => h) (fun _ _ h => h) (fun _ _ h => h)).chg x3 (fun g hg h => by have := HL.out.own.lt hg; omega) (fun b hb h => by have := (HL.out.lo b hb).2; omega) (fun g hg h => by omega))
      have HC3 := Lib.hid ((HC.out.quiet X2.out).chg x3 (fun g hg h => by have := (HFc.out g hg).2; omega))
      have z3 : wo.heap.size + 1 ≤ w3.heap.size := by have := x3.size; have := Z2.out; omega
      have HX3 := Lib.hid (((HX.out.trans X2.out (fun _ h => h.elim)).mono (G := fun g => w.heap.size ≤ g) (fun _ h => h.elim)).trans x3 (fun g h => .inl (by omega)) |>.mono (G := fun _ => False) (fun g hg => .inr hg))
      clear r3 x3
      cases hf : (((Rd.mk row false).take 2).1.num == 1) with
      | false =>
        have HF := Lib.hid (show ¬ ((Rd.mk row false).take 2).1.num = 1 by intro e; rw [e] at hf; cases hf)
        clear hf
        go_wp2_with (at_builtin; refine own_app rdr_ok rfl _ _ rfl w.heap.size _ bs.length (bs.map ptrV) rfl (HL3.out.own.quiet ((Chg.refl _ _).alloc _)) (fun _ => True) _ 1 [ptrV wo.heap.size] rfl (row_one hal_new trivial) rfl ?_ ?_ ?_ ?_ ?_)
        · simp [Value.oneCell', ptrV]
        · unfold maxLen; omega
        · omega
        · simp; omega
        · intro v' w5 r5 x5 hat
          obtain ⟨ao5, cap5, rfl, _⟩ := r5.form
          have xa : Chg (fun _ => False) w3 (w3.alloc (.cells #[ptrV wo.heap.size] 81)) := (Chg.refl _ _).alloc _
          have HL5 := Lib.hid ((HL3.out.chg xa (fun _ _ h => h) (fun _ _ h => h) (fun _ _ h => h)).app (R3.out.chg xa (fun h => h) (fun _ _ h => h)) (fun b hb => (HL.out.lo b hb).2) hwo r5 x5)
          have HC5 := Lib.hid ((HC3.out.quiet xa).chg x5 (fun g hg h => HO.out g h hg))
          have HX5 := Lib.hid (((HX3.out.trans xa (fun _ h => h.elim)).mono (G := fun g => w.heap.size ≤ g) (fun _ h => h.elim)).trans x5 (fun g h => .inl (HL.out.own.lo g h)) |>.mono (G := fun _ => False) (fun g hg => .inr hg))
          have hz5 := x5.size
          have HF5 := Lib.hid (fun g (hg : Fc g) => (⟨(HFc.out g hg).1, by have := (HFc.out g hg).2; simp at hz5; omega⟩ : w.heap.size ≤ g ∧ g < w5.heap.size))
          have HB5 := Lib.hid (fun b (hb : b ∈ bs ++ [wo.heap.size]) => (by
            rcases List.mem_append.1 hb with hb | hb
            · exact HB.out b hb
            · simp at hb
              subst hb
              exact fun h => by have := (HFc.out _ h).2; omega : ¬ Fc b))
          have HO5 := Lib.hid (fun g (hg : (Value.slice ao5 (bs.length + 1) cap5).ownBlock = some g) => (by
            rcases hat g hg with h | h
            · exact HO.out g h
            · intro hf
              have := (HFc.out _ hf).2
              omega : ¬ Fc g))
          have HS5 : Hid (foldO tabStep (Cat.empty, []) (rows.take (k + 1)) = some (C, L ++ [((Rd.mk row false).take 2).2])) := Lib.hid (by
            rw [foldO_succ tabStep HROW.out HS.out]
            unfold tabStep
            simp only
            rw [if_neg HF.out])
          have HLL5 := Lib.hid (fun R (hR : R ∈ L ++ [((Rd.mk row false).take 2).2]) => (by
            rcases List.mem_append.1 hR with h | h
            · exact HLL.out R h
            · simp at h
              subst h
              have hbig : Rd.big ⟨row, false⟩ := HRB.out
              have hl1 : ((Rd.mk row false).take 2).2.l.length ≤ row.length - 1 := take_len _ _
              exact ⟨(take_big hbig 2).2, by omega⟩ : R.big ∧ R.l.length ≤ 4400000000000))
          clear r5 x5 hat xa hz5
          go_wp2
          go_roundw
          case rel => exact ⟨k + 1, C, L ++ [((Rd.mk row false).take 2).2], bs ++ [wo.heap.size], Fc, by omega, by go_num, by simp; omega, HS5, HC5, HF5, by simpa using HL5, HB5, HO5, HLL5, HX5⟩
          case measure => simp [intOf]; omega
      | true =>
        have HF := Lib.hid (show ((Rd.mk row false).take 2).1.num = 1 by simpa using hf)
        clear hf
        have hbig : Rd.big ⟨row, false⟩ := HRB.out
        have hb1 := (take_big hbig 2).2
        have hb2 := take_big hb1 3
        have hl1 : ((Rd.mk row false).take 2).2.l.length ≤ row.length - 1 := take_len _ _
        have hl2 := take_len ((Rd.mk row false).take 2).2 3
        have HSTEP : Hid (foldO tabStep (Cat.empty, []) (rows.take (k + 1)) = if (((Rd.mk row false).take 2).2.take 3).2.cols.2.bad = false ∧ C.addTR ⟨(((Rd.mk row false).take 2).2.take 3).1.str, (((Rd.mk row false).take 2).2.take 3).2.cols.1⟩ = 0 then some (C.addT ⟨(((Rd.mk row false).take 2).2.take 3).1.str, (((Rd.mk row false).take 2).2.take 3).2.cols.1⟩, L) else none) := Lib.hid (by
          rw [foldO_succ tabStep HROW.out HS.out]
          unfold tabStep
          simp only
          rw [if_pos HF.out])
        have HTK := Lib.hid (take_any wo.heap.size _ ((Rd.mk row false).take 2).2 3 w3 R3.out (by omega) (by omega) (by omega))
        clear hbig hb1
        generalize ((Rd.mk row false).take 2).2 = R1 at *
        generalize hR2 : (R1.take 3).2 = R2 at *
        generalize hnm : (R1.take 3).1 = nv at *
        obtain ⟨nk, nn, nm⟩ := nv
        simp only at *
        obtain ⟨hbn, hb2⟩ := hb2
        have HB2 := Lib.hid hb2
        clear hR2 hnm hb2
        go_wp2_with fail
        refine HTK.out.mono ?_
        unfold valV
        rintro e w4 ⟨rfl, r4, x4⟩
        have HL4 := Lib.hid (HL3.out.chg x4 (fun g hg h => by have := HL.out.own.lt hg; omega) (fun b hb h => by have := (HL.out.lo b hb).2; omega) (fun g hg h => by omega))
        have HC4 := Lib.hid (HC3.out.chg x4 (fun g hg h => by have := (HFc.out g hg).2; omega))
        have HX4 := Lib.hid ((HX3.out.mono (G := fun g => w.heap.size ≤ g) (fun _ h => h.elim)).trans x4 (fun g h => .inl (by omega)) |>.mono (G := fun _ => False) (fun g hg => .inr hg))
        have R4 := Lib.hid r4
        have z4 : wo.heap.size + 1 ≤ w4.heap.size := Nat.le_trans z3 x4.size
        clear r4 x4
        go_wp2
        obtain ⟨W5, hW5⟩ : ∃ W5, W5 = w4.alloc (.cells #[.string nm, .slice none 0 0] 27) := ⟨_, rfl⟩
        rw [← hW5]
        have x5 : Chg (fun _ => False) w4 W5 := by subst hW5; exact (Chg.refl _ _).alloc _
        have z5 : W5.heap.size = w4.heap.size + 1 := by subst hW5; simp
        have B5 : Hid (W5.heap[w4.heap.size]? = some (.cells #[.string nm, .slice none 0 0] 27 (0, 0))) := Lib.hid (by subst hW5; exact hal_new)
        have X5 := Lib.hid x5
        have HL5 := Lib.hid (HL4.out.chg x5 (fun _ _ h => h) (fun _ _ h => h) (fun _ _ h => h))
        have HC5 := Lib.hid (HC4.out.quiet x5)
        have HX5 := Lib.hid (HX4.out.trans x5 (fun _ h => h.elim))
        have R5 := Lib.hid (R4.out.chg x5 (fun h => h) (fun _ _ h => h))
        have HZ5 := Lib.hid z5
        clear hW5 x5 z5
        go_loopw [39] (fun _ wr => ∃ (acc : List Col) (R : Rd) (ao : Option Addr) (cap : Nat), acc.length + R.l.length ≤ row.length ∧ Hid (RdAt wr (fun g => g < w.heap.size) wo.heap.size R) ∧ Hid (wr.heap[w4.heap.size]? = some (.cells #[.string nm, .slice ao acc.length cap] 27 (0, 0))) ∧ Hid (Own 30 4 wr (w4.heap.size + 1) (.slice ao acc.length cap) acc.length (colCells acc)) ∧ Hid (R2.cols = (acc ++ R.cols.1, R.cols.2)) ∧ Hid R.big ∧ Hid (∀ c ∈ acc, big c.name) ∧ Hid (Chg (fun g => g = wo.heap.size ∨ g = w4.heap.size) W5 wr)) (fun _ wr => rdLen wr wo.heap.size)
        case atStart => exact ⟨[], R2, none, 0, by simp; omega, R5, B5, Lib.hid (Own.nil _ _ _ _), Lib.hid (by simp), HB2, Lib.hid (fun c hc => by simp at hc), Lib.hid (Chg.refl _ _)⟩
        case round =>
          obtain ⟨acc, R, ac, cc, hsum, HRR, HVB, HOC, HCO, HBG, HBA, HXC⟩ := hrel
          have hrd := HRR.out
          obtain ⟨ar, kr, g1, g2, g3⟩ := hrd
          have c0 := cell_of_row wr wo.heap.size 0 _ _ _ g1
          have c1 := cell_of_row wr wo.heap.size 1 _ _ _ g1
          clear g1 g2 g3
          by_cases h0 : R.l.length = 0
          · have HZ := Lib.hid (show R2.cols = (acc, R) by rw [HCO.out, cols_nil h0]; simp)
            rw [h0] at c0
            clear h0
            have hsz := HXC.out.size
            have hz5 := HZ5.out
            have v0 := cell_of_row wr w4.heap.size 0 _ _ _ HVB.out
            have v1 := cell_of_row wr w4.heap.size 1 _ _ _ HVB.out
            have HCW := Lib.hid (HC5.out.chg HXC.out (fun g hg h => by have := (HFc.out g hg).2; omega))
            have HLW := Lib.hid (HL5.out.chg HXC.out (fun g hg h => by have := HL.out.own.lt hg; omega) (fun b hb h => by have := (HL.out.lo b hb).2; omega) (fun g hg h => by omega))
            have HXW := Lib.hid ((HX5.out.mono (G := fun g => w.heap.size ≤ g) (fun _ h => h.elim)).trans HXC.out (fun g h => .inl (by omega)) |>.mono (G := fun _ => False) (fun g hg => .inr hg))
            cases hbad : R.bad with
            | true =>
              rw [hbad] at c1
              have HN : Hid (readC rows = none) := Lib.hid (by
                unfold readC
                rw [foldO_none tabStep (k := k + 1) (by rw [HSTEP.out, HZ.out, if_neg (by rw [hbad]; simp)])])
              clear hbad
              go_wp2
              go_ret2
              rw [HN.out]
              exact ⟨rfl, HXW.out⟩
            | false =>
              rw [hbad] at c1
              have HBD := Lib.hid hbad
              clear hbad
              go_wp2_with fail
              refine (addT_any r Fc (fun g => w4.heap.size + 1 ≤ g) C ⟨nm, acc⟩ (.slice ac acc.length cc) wr HCW.out HOC.out.read (by show acc.length ≤ _; omega) hbn HBA.out).mono ?_
              rintro e w6 ⟨rfl, h6, x6⟩
              have HC6 := Lib.hid h6
              have HL6 := Lib.hid (HLW.out.chg x6 (fun g hg => HO.out g hg) (fun b hb => HB.out b hb) (fun g hg h => by have := (HFc.out g h).1; omega))
              have HX6 := Lib.hid ((HXW.out.mono (G := fun g => w.heap.size ≤ g) (fun _ h => h.elim)).trans x6 (fun g h => .inl (HFc.out g h).1) |>.mono (G := fun _ => False) (fun g hg => .inr hg))
              have z6 := x6.size
              have hwr : wo.heap.size ≤ wr.heap.size := by omega
              have HF6 := Lib.hid (fun g (hg : Ext Fc wr w6 g) => (by
                rcases hg with hg | hg
                · have := HFc.out g hg; exact ⟨this.1, by omega⟩
                · exact ⟨by omega, hg.2⟩ : w.heap.size ≤ g ∧ g < w6.heap.size))
              have HB6 := Lib.hid (fun b (hb : b ∈ bs) (h : Ext Fc wr w6 b) => (by
                rcases h with h | h
                · exact HB.out b hb h
                · have := (HL.out.lo b hb).2; omega : False))
              have HO6 := Lib.hid (fun g (hg : (Value.slice ao1 bs.length cap1).ownBlock = some g) (h : Ext Fc wr w6 g) => (by
                rcases h with h | h
                · exact HO.out g hg h
                · have := HL.out.own.lt hg; omega : False))
              clear h6 x6
              by_cases hadd : C.addTR ⟨nm, acc⟩ = 0
              · have HSS : Hid (foldO tabStep (Cat.empty, []) (rows.take (k + 1)) = some (C.addT ⟨nm, acc⟩, L)) := Lib.hid (by
                  rw [HSTEP.out, HZ.out, if_pos ⟨HBD.out, hadd⟩])
                rw [hadd]
                clear hadd
                go_wp2
                go_roundw
                case rel => exact ⟨k + 1, C.addT ⟨nm, acc⟩, L, bs, Ext Fc wr w6, by omega, by go_num, by omega, HSS, HC6, HF6, HL6, HB6, HO6, HLL, HX6⟩
                case measure => simp [intOf]; omega
              · have HN : Hid (readC rows = none) := Lib.hid (by
                  unfold readC
                  rw [foldO_none tabStep (k := k + 1) (by rw [HSTEP.out, HZ.out, if_neg (fun h => hadd h.2)])])
                have hne : (C.addTR ⟨nm, acc⟩ != 0) = true := by simpa using hadd
                clear hadd
                go_wp2
                go_ret2
                rw [HN.out]
                exact ⟨rfl, HX6.out⟩
          · have hpos : 0 < R.l.length := by omega
            have hsz := HXC.out.size
            have hz5 := HZ5.out
            go_wp2_with fail
            have hS : ∀ W, Chg (fun g => g = wo.heap.size) wr W → W.cell? ⟨w4.heap.size, 1, none⟩ = some (.slice ac acc.length cc) := fun W hW => cell_of_row W _ 1 _ _ _ (hW.heap HVB.out (fun h => by omega))
            have HSC := Lib.hid hS
            clear hS
            refine wp_region_lex (fun w' => w'.cell? ⟨w4.heap.size, 1, none⟩ = some (.slice ac acc.length cc)) 16 [3, 6, 9, 11, 13, 14, 16] [0, 1, 2, 5, 8, 10, 3, 4, 6, 7, 9, 11, 12, 13, 14, 15, 16] (by kernel_rfl) (by kernel_rfl) (HSC.out _ (Chg.refl _ _).drew) ?_
            iterate 6
              refine' lex_free (v := _) rfl rfl rfl ?_ (fun _ _ _ h => h) ?_
              rotate_left
              · rintro W hW1
                go_simp
                with_reducible rfl
              try simp only [Act.put, List.setIfInBounds_toArray, List.set_cons_zero, List.set_cons_succ]
            have HCE := Lib.hid (show R.col = R.col from rfl)
            refine lex_op rfl rfl rfl (fun K hK => ?_)
            go_simp
            refine (take_any wo.heap.size _ R 3 wr.drew (HRR.out.chg (Chg.refl (fun _ => False) wr).drew (fun h => h) (fun _ _ h => h)) (by omega) (by omega) (by omega)).mono ?_
            unfold valV
            rintro e y1 ⟨rfl, t1, s1⟩
            have T1 := Lib.hid t1; have Y1 := Lib.hid ((Chg.refl (fun g => g = wo.heap.size) wr).drew.trans s1 (fun g h => .inl h))
            clear t1 s1
            refine hK _ _ (fun _ => HSC.out _ Y1.out) ?_
            clear hK K
            try simp only [Act.put, List.setIfInBounds_toArray, List.set_cons_zero, List.set_cons_succ]
            iterate 1
              refine' lex_free (v := _) rfl rfl rfl ?_ (fun _ _ _ h => h) ?_
              rotate_left
              · rintro W hW1
                go_simp
                with_reducible rfl
              try simp only [Act.put, List.setIfInBounds_toArray, List.set_cons_zero, List.set_cons_succ]
            have hq1 := take_len R 3
            have hq2 := take_len (R.take 3).2 1
            have hq3 := take_len ((R.take 3).2.take 1).2 2
            have hq4 := take_len (((R.take 3).2.take 1).2.take 2).2 2
            refine lex_op rfl rfl rfl (fun K hK => ?_)
            go_simp
            refine (take_any wo.heap.size _ (R.take 3).2 1 y1 T1.out (by omega) (by omega) (by omega)).mono ?_
            unfold valV
            rintro e y2 ⟨rfl, t2, s2⟩
            have T2 := Lib.hid t2; have Y2 := Lib.hid (Y1.out.trans s2 (fun g h => .inl h))
            clear t2 s2
            refine hK _ _ (fun _ => HSC.out _ Y2.out) ?_
            clear hK K
            try simp only [Act.put, List.setIfInBounds_toArray, List.set_cons_zero, List.set_cons_succ]
            iterate 1
              refine' lex_free (v := _) rfl rfl rfl ?_ (fun _ _ _ h => h) ?_
              rotate_left
              · rintro W hW1
                go_simp
                with_reducible rfl
              try simp only [Act.put, List.setIfInBounds_toArray, List.set_cons_zero, List.set_cons_succ]
            refine lex_op rfl rfl rfl (fun K hK => ?_)
            go_simp
            refine (flag_any wo.heap.size _ ((R.take 3).2.take 1).2 y2 T2.out (by omega) (by omega)).mono ?_
            rintro e y3 ⟨rfl, t3, s3⟩
            have T3 := Lib.hid t3; have Y3 := Lib.hid (Y2.out.trans s3 (fun g h => .inl h))
            clear t3 s3
            refine hK _ _ (fun _ => HSC.out _ Y3.out) ?_
            clear hK K
            try simp only [Act.put, List.setIfInBounds_toArray, List.set_cons_zero, List.set_cons_succ]
            refine lex_op rfl rfl rfl (fun K hK => ?_)
            go_simp
            refine (flag_any wo.heap.size _ (((R.take 3).2.take 1).2.take 2).2 y3 T3.out (by omega) (by omega)).mono ?_
            rintro e y4 ⟨rfl, t4, s4⟩
            have T4 : Hid (RdAt y4 (fun g => g < w.heap.size) wo.heap.size R.col.2) := Lib.hid t4
            have Y4 := Lib.hid (Y3.out.trans s4 (fun g h => .inl h))
            clear t4 s4
            refine hK _ _ (fun _ => HSC.out _ Y4.out) ?_
            clear hK K
            try simp only [Act.put, List.setIfInBounds_toArray, List.set_cons_zero, List.set_cons_succ]
            iterate 1
              refine' lex_free (v := _) rfl rfl rfl ?_ (fun _ _ _ h => h) ?_
              rotate_left
              · rintro W hW1
                go_simp
                with_reducible rfl
              try simp only [Act.put, List.setIfInBounds_toArray, List.set_cons_zero, List.set_cons_succ]
            refine lex_op rfl rfl rfl (fun K hK => ?_)
            go_simp
            have O4 : Hid (Own 30 4 (y4.alloc (.cells R.col.1.cells.toArray 30)) (w4.heap.size + 1) (.slice ac acc.length cc) acc.length (colCells acc)) := Lib.hid ((HOC.out.chg Y4.out (fun g hg h => by have := HOC.out.lo g hg; omega)).quiet ((Chg.refl _ _).alloc _))
            refine hK _ _ (fun _ => HSC.out _ (Y4.out.alloc _)) ?_
            clear hK K
            try simp only [Act.put, List.setIfInBounds_toArray, List.set_cons_zero, List.set_cons_succ]
            have hw4 : w4.heap.size + 1 ≤ y4.heap.size := by have := Y4.out.size; omega
            refine lex_op rfl rfl rfl (fun K hK => ?_)
            refine own_wp col_ok _ _ rfl (w4.heap.size + 1) _ acc.length (colCells acc) rfl O4.out (fun _ => True) (.slice (some ⟨y4.heap.size, 0, none⟩) 1 1) 1 R.col.1.cells rfl ⟨_, 1, rfl, fun _ => ⟨y4.heap.size, 0, rfl, by simp, trivial, range_block hal_new⟩⟩ rfl (fun y hy => colCells_one [R.col.1] y (by simpa [colCells] using hy)) (by unfold maxLen; omega) (by omega) (by simp; omega) ?_
            intro v9 w9 o9 c9 hat9
            obtain ⟨a9, k9, rfl, _⟩ := o9.form
            have hlo := fun g (hg : (Value.slice ac acc.length cc).ownBlock = some g) => HOC.out.lo g hg
            have hb9 := c9.heap (((Y4.out.alloc (.cells R.col.1.cells.toArray 30))).heap HVB.out (fun h => by omega)) (fun h => by have := hlo _ h; omega)
            refine hK _ _ (fun _ => cell_of_row w9 _ 1 _ _ _ hb9) ?_
            clear hK K
            try simp only [Act.put, List.setIfInBounds_toArray, List.set_cons_zero, List.set_cons_succ]
            iterate 1
              refine' lex_free (v := _) rfl rfl rfl ?_ (fun _ _ _ h => h) ?_
              rotate_left
              · rintro W hW1
                go_simp
                with_reducible rfl
              try simp only [Act.put, List.setIfInBounds_toArray, List.set_cons_zero, List.set_cons_succ]
            have f9 := frozen_of_row w9 w4.heap.size 1 _ _ hb9
            have d9 := cell_of_row w9 w4.heap.size 1 _ _ _ hb9
            have HB9 := Lib.hid hb9
            have xs : Chg (fun g => g = w4.heap.size) w9 (w9.setCell ⟨w4.heap.size, 1, none⟩ (.slice a9 (acc.length + 1) k9)) := (Chg.refl (fun g => g = w4.heap.size) w9).setCell (p := ⟨w4.heap.size, 1, none⟩) (.inl rfl) _
            have O9 : Hid (Own 30 4 (w9.setCell ⟨w4.heap.size, 1, none⟩ (.slice a9 (acc.length + 1) k9)) (w4.heap.size + 1) (.slice a9 (acc ++ [R.col.1]).length k9) (acc ++ [R.col.1]).length (colCells (acc ++ [R.col.1]))) := Lib.hid (by
              have e : colCells (acc ++ [R.col.1]) = colCells acc ++ R.col.1.cells := by unfold colCells; rw [List.flatMap_append]; simp
              rw [e, List.length_append]
              exact o9.chg xs (fun g hg h => by have := o9.lo g hg; omega))
            have R9 := Lib.hid (((T4.out.chg ((Chg.refl (fun _ => False) y4).alloc (.cells R.col.1.cells.toArray 30)) (fun h => h) (fun _ _ h => h)).chg c9 (fun h => by have := hlo _ h; omega) (fun g hg h => by have := hlo _ h; omega)).chg xs (fun h => by omega) (fun g hg h => by omega))
            have X9 := Lib.hid (((((HXC.out.trans Y4.out (fun g h => .inl (.inl h))).alloc (.cells R.col.1.cells.toArray 30)).trans c9 (fun g h => .inr (by have := hlo _ h; omega))).trans xs (fun g h => .inl (.inr h))))
            clear o9 c9 hat9 hb9 xs
            refine lex_op rfl rfl rfl (fun K hK => ?_)
            go_simp
            refine hK _ _ (fun h => absurd rfl h) ?_
            clear hK K
            try simp only [Act.put, List.setIfInBounds_toArray, List.set_cons_zero, List.set_cons_succ]
            refine lex_nil ?_
            go_wp2
            go_roundw
            case rel =>
              have hcl := col_len R
              refine ⟨acc ++ [R.col.1], R.col.2, a9, k9, by rw [List.length_append]; simp; omega, R9, Lib.hid ?_, O9, Lib.hid ?_, Lib.hid ?_, Lib.hid ?_, X9⟩
              · rw [hset_eq HB9.out, List.length_append]; rfl
              · rw [HCO.out, cols_cons (by omega)]; simp
              · have b1 := (take_big HBG.out 3).2
                have b2 := (take_big b1 1).2
                have b3 := (take_big b2 2).2
                exact (take_big b3 2).2
              · intro c hc
                rcases List.mem_append.1 hc with hc | hc
                · exact HBA.out c hc
                · simp at hc
                  subst hc
                  exact (take_big HBG.out 3).1
            case measure =>
              have hcl := col_len R
              rw [R9.out.mlen, HRR.out.mlen]
              omega
    · have HK := Lib.hid (show k = rows.length by omega)
      have HRC : Hid (readC rows = foldO ixStep C L) := Lib.hid (by
        have := HS.out
        rw [HK.out, List.take_length] at this
        unfold readC
        rw [this])
      have HRow := Lib.hid HL.out.own.read
      have hwo : w.heap.size ≤ wo.heap.size := HX.out.size
      have HLE := Lib.hid HL.out.len
      go_wp2
      go_loopw [74] (fun i wr => ∃ (j : Nat) (D : Cat) (Fd : Nat → Prop), j ≤ bs.length ∧ i = .int .i64 j ∧ Hid (foldO ixStep C (L.take j) = some D) ∧ Hid (CatAt wr r Fd D) ∧ Hid (∀ g, Fd g → w.heap.size ≤ g ∧ g < wr.heap.size) ∧
        Hid (∀ i b R, j ≤ i → bs[i]? = some b → L[i]? = some R → RdAt wr (fun g => g < w.heap.size) b R) ∧ Hid (RowAt wr (fun g => (Value.slice ao1 bs.length cap1).ownBlock = some g) (.slice ao1 bs.length cap1) bs.length (bs.map ptrV)) ∧ Hid (∀ b ∈ bs, ¬ Fd b) ∧ Hid (∀ g, (Value.slice ao1 bs.length cap1).ownBlock = some g → ¬ Fd g) ∧ Hid (wo.heap.size ≤ wr.heap.size) ∧ Hid (Chg (fun _ => False) w wr)) (fun i _ => bs.length - (intOf i).toNat)
      case atStart =>
        refine ⟨0, C, Fc, Nat.zero_le _, rfl, Lib.hid rfl, HC, HFc, Lib.hid (fun i b R _ h1 h2 => HL.out.each i b R h1 h2), Lib.hid ?_, HB, HO, Lib.hid (Nat.le_refl _), HX⟩
        rcases HL.out.own.row.2 with ⟨h1, h2⟩ | ⟨g, cap', cur, h1, _, h3, _⟩
        · have : bs = [] := List.eq_nil_of_length_eq_zero h2
          subst this
          exact RowAt.nil _ _ _ _
        · have hr := HL.out.own.read
          obtain ⟨a, c, he, hp⟩ := hr
          simp only [Value.slice.injEq] at he h1
          obtain ⟨rfl, _, rfl⟩ := he
          refine ⟨_, _, rfl, fun hn => ?_⟩
          obtain ⟨b, o, e1, e2, _, e4⟩ := hp hn
          refine ⟨b, o, e1, e2, ?_, e4⟩
          rw [h1.1] at e1
          simp only [Option.some.injEq, Addr.mk.injEq] at e1
          rw [h1.1, e1.1]
          rfl
      case round =>
        obtain ⟨j, D, Fd, hj, rfl, HSJ, HCJ, HFJ, HEJ, HRJ, HBJ, HOJ, HWJ, HXJ⟩ := hrel
        obtain ⟨wp, rfl⟩ : ∃ wp : World, wp = wr := ⟨_, rfl⟩
        by_cases hjl : j < bs.length
        · obtain ⟨b, hb⟩ : ∃ b, bs[j]? = some b := ⟨_, List.getElem?_eq_getElem hjl⟩
          obtain ⟨R, hR⟩ : ∃ R, L[j]? = some R := ⟨_, List.getElem?_eq_getElem (by rw [← HLE.out]; exact hjl)⟩
          have hrj := HRJ.out
          obtain ⟨a3, k3, he3, hp3⟩ := hrj
          simp only [Value.slice.injEq] at he3
          obtain ⟨rfl, _, rfl⟩ := he3
          obtain ⟨b3, o3, rfl, hb3, _, hr3⟩ := hp3 (by omega)
          have hcell := hr3 j (ptrV b) (by rw [List.getElem?_map, hb]; rfl)
          have hrd := HEJ.out j b R (Nat.le_refl _) hb hR
          have hmem : b ∈ bs := List.mem_of_getElem? hb
          have hbl := HL.out.lo b hmem
          obtain ⟨hbig, hlen3⟩ := HLL.out R (List.mem_of_getElem? hR)
          have q1 := take_len R 3
          have q2 := take_len (R.take 3).2 3
          have q3 := take_len ((R.take 3).2.take 3).2 1
          have bg1 := take_big hbig 3
          have bg2 := take_big bg1.2 3
          have HST := Lib.hid (show foldO ixStep C (L.take (j + 1)) = ixStep D R from foldO_succ ixStep hR HSJ.out)
          have HBI := Lib.hid hb; have HRI := Lib.hid hR; have HMEM := Lib.hid hmem; have HRD := Lib.hid hrd
          have hbg := bg1.1
          clear hr3 hp3 hb hR hmem hrd bg2
          clear bg1
          unfold ptrV at hcell
          go_wp2_with fail
          refine (take_any b _ R 3 wp HRD.out (by omega) (by omega) (by omega)).mono ?_
          unfold valV
          rintro e y1 ⟨rfl, t1, s1⟩
          have T1 := Lib.hid t1; have Y1 := Lib.hid s1
          clear t1 s1
          go_wp2_with fail
          refine (take_any b _ (R.take 3).2 3 y1 T1.out (by omega) (by omega) (by omega)).mono ?_
          unfold valV
          rintro e y2 ⟨rfl, t2, s2⟩
          have T2 := Lib.hid t2; have Y2 := Lib.hid (Y1.out.trans s2 (fun _ h => .inl h))
          clear t2 s2
          go_wp2_with fail
          refine (take_any b _ ((R.take 3).2.take 3).2 1 y2 T2.out (by omega) (by omega) (by omega)).mono ?_
          unfold valV
          rintro e y3 ⟨rfl, t3, s3⟩
          have T3 := Lib.hid t3; have Y3 := Lib.hid (Y2.out.trans s3 (fun _ h => .inl h))
          clear t3 s3
          go_wp2_with fail
          refine (flag_any b _ (((R.take 3).2.take 3).2.take 1).2 y3 T3.out (by omega) (by omega)).mono ?_
          rintro e y4 ⟨rfl, t4, s4⟩
          have T4 := Lib.hid t4; have Y4 := Lib.hid (Y3.out.trans s4 (fun _ h => .inl h))
          clear t4 s4
          have HIX : Hid (ixStep D R = if ((((R.take 3).2.take 3).2.take 1).2.take 2).2.bad = false ∧ ((((R.take 3).2.take 3).2.take 1).2.take 2).2.l.length = 0 ∧ (tfind D.T ((R.take 3).2.take 3).1.str).isSome = true ∧ 0 ≤ (((R.take 3).2.take 3).2.take 1).1.num ∧ (((R.take 3).2.take 3).2.take 1).1.num < (colsOf D.T ((R.take 3).2.take 3).1.str).length ∧
              D.addIR (R.take 3).1.str ((R.take 3).2.take 3).1.str ((colsOf D.T ((R.take 3).2.take 3).1.str)[(((R.take 3).2.take 3).2.take 1).1.num.toNat]?.getD ⟨⟨#[]⟩, 0, false, false⟩).name = 0 then
              some (D.addI (R.take 3).1.str ((R.take 3).2.take 3).1.str ((colsOf D.T ((R.take 3).2.take 3).1.str)[(((R.take 3).2.take 3).2.take 1).1.num.toNat]?.getD ⟨⟨#[]⟩, 0, false, false⟩).name (((((R.take 3).2.take 3).2.take 1).2.take 2).1.num == 1)) else none) := Lib.hid rfl
          clear T1 T2 T3
          have q4 := take_len (((R.take 3).2.take 3).2.take 1).2 2
          have hl4 : ((((R.take 3).2.take 3).2.take 1).2.take 2).2.l.length ≤ 4400000000000 := by omega
          clear q1 q2 q3 q4
          generalize hp4 : (((R.take 3).2.take 3).2.take 1).2.take 2 = P4 at *
          clear hp4
          generalize hp3 : ((R.take 3).2.take 3).2.take 1 = P3 at *
          clear hp3
          generalize hp2 : (R.take 3).2.take 3 = P2 at *
          clear hp2
          generalize hp1 : R.take 3 = P1 at *
          clear hp1
          obtain ⟨⟨ak, an, n⟩, A⟩ := P1
          obtain ⟨⟨bk, bn, t⟩, Bq⟩ := P2
          obtain ⟨⟨ck, c, cs⟩, Cq⟩ := P3
          obtain ⟨⟨dk, dn, ds⟩, ⟨rl, rbad⟩⟩ := P4
          simp only at *
          have HNO := Lib.hid (fun (h : ixStep D R = none) => (by
            rw [HRC.out]
            exact foldO_none ixStep (k := j + 1) (by rw [HST.out, h]) : readC rows = none))
          have HC4 := Lib.hid (HCJ.out.chg Y4.out (fun g hg h => by subst h; exact HBJ.out _ HMEM.out hg))
          have HX4 := Lib.hid ((HXJ.out.mono (G := fun g => w.heap.size ≤ g) (fun _ h => h.elim)).trans Y4.out (fun g h => .inl (by omega)) |>.mono (G := fun _ => False) (fun g hg => .inr hg))
          go_wp2_with fail
          refine (table_any r Fd D t y4 HC4.out).mono ?_
          rintro e y5 ⟨_, rfl, ⟨a5, k5, rfl, p5⟩, x5⟩
          have HCols := Lib.hid (show ColsAt y5 (fun g => y4.heap.size ≤ g) (.slice a5 (colsOf D.T t).length k5) (colsOf D.T t) from ⟨a5, k5, rfl, p5⟩)
          have T5 := Lib.hid (T4.out.chg x5 (fun h => h) (fun _ _ h => h))
          have HC5 := Lib.hid (HC4.out.quiet x5)
          have HX5 := Lib.hid (HX4.out.trans x5 (fun _ h => h.elim))
          have Y5 := Lib.hid (Y4.out.trans x5 (fun _ h => h.elim))
          have hcl := HC4.out.ok.cols t
          clear p5 x5
          obtain ⟨W6, hW6⟩ : ∃ W6, W6 = y5.alloc (.cells #[.string (nameAt D.T t), .slice a5 (colsOf D.T t).length k5] 27) := ⟨_, rfl⟩
          have x6 : Chg (fun _ => False) y5 W6 := by subst hW6; exact (Chg.refl _ _).alloc _
          have b6 : W6.heap[y5.heap.size]? = some (.cells #[.string (nameAt D.T t), .slice a5 (colsOf D.T t).length k5] 27 (0, 0)) := by subst hW6; exact hal_new
          have HC6 := Lib.hid (HC5.out.quiet x6)
          have HX6 := Lib.hid (HX5.out.trans x6 (fun _ h => h.elim))
          have Y6 := Lib.hid (Y5.out.trans x6 (fun _ h => h.elim))
          have t6 := T5.out.chg x6 (fun h => h) (fun _ _ h => h)
          obtain ⟨a6, k6, g1, g2, g3⟩ := t6
          have c0 := cell_of_row W6 b 0 _ _ _ g1
          have c1 := cell_of_row W6 b 1 _ _ _ g1
          have v1 := cell_of_row W6 y5.heap.size 1 _ _ _ b6
          rw [hW6] at c0 c1 v1
          have HW6 := Lib.hid hW6
          have HCols6 := Lib.hid (RowAt.quiet HCols.out x6)
          clear g1 g2 g3 b6 x6 hW6
          simp only at c0 c1
          cases rbad with
          | true =>
            have HN := Lib.hid (HNO.out (by rw [HIX.out, if_neg (by simp)]))
            go_wp2
            go_ret2
            rw [HN.out, ← HW6.out]
            exact ⟨rfl, HX6.out⟩
          | false =>
            by_cases h0 : rl.length = 0
            · rw [h0] at c0
              have HL0 := Lib.hid h0
              clear h0
              cases hf : (tfind D.T t).isSome with
              | false =>
                have HN := Lib.hid (HNO.out (by rw [HIX.out, if_neg (by simp [hf])]))
                clear hf
                go_wp2
                go_ret2
                rw [HN.out, ← HW6.out]
                exact ⟨rfl, HX6.out⟩
              | true =>
                have HFS := Lib.hid hf
                clear hf
                by_cases hc0 : c < 0
                · have HN := Lib.hid (HNO.out (by rw [HIX.out, if_neg (by rintro ⟨_, _, _, h, _⟩; omega)]))
                  go_wp2
                  go_ret2
                  rw [HN.out, ← HW6.out]
                  exact ⟨rfl, HX6.out⟩
                · by_cases hcl2 : (colsOf D.T t).length ≤ c
                  · have HN := Lib.hid (HNO.out (by rw [HIX.out, if_neg (by rintro ⟨_, _, _, _, h, _⟩; omega)]))
                    go_wp2
                    go_ret2
                    rw [HN.out, ← HW6.out]
                    exact ⟨rfl, HX6.out⟩
                  · obtain ⟨cn, rfl⟩ : ∃ cn : Nat, c = cn := ⟨c.toNat, by omega⟩
                    have hcn : cn < (colsOf D.T t).length := by omega
                    obtain ⟨x, hx⟩ : ∃ x, (colsOf D.T t)[cn]? = some x := ⟨_, List.getElem?_eq_getElem hcn⟩
                    obtain ⟨b7, o7, rfl, hb7, _, p0, _, _, _⟩ := ColsAt.col (w := W6) rfl HCols6.out hx
                    rw [HW6.out] at p0
                    have HIX2 : Hid (ixStep D R = if D.addIR n t x.name = 0 then some (D.addI n t x.name (dn == 1)) else none) := Lib.hid (by
                      rw [HIX.out]
                      have e : ((colsOf D.T t)[((cn : Nat) : Int).toNat]?.getD ⟨⟨#[]⟩, 0, false, false⟩) = x := by rw [show ((cn : Nat) : Int).toNat = cn from rfl, hx]; rfl
                      rw [e, HFS.out]
                      by_cases ha : D.addIR n t x.name = 0
                      · rw [if_pos ⟨rfl, HL0.out, rfl, by omega, by omega, ha⟩, if_pos ha]
                      · rw [if_neg (fun h => ha h.2.2.2.2.2), if_neg ha])
                    clear hx
                    generalize (colsOf D.T t).length = len at *
                    go_wp2_with fail
                    rw [← HW6.out]
                    refine (addI_any r Fd D n t x.name (dn == 1) W6 HC6.out hbg).mono ?_
                    rintro e w7 ⟨rfl, h7, x7⟩
                    have HC7 := Lib.hid h7
                    have HX7 := Lib.hid ((HX6.out.mono (G := fun g => w.heap.size ≤ g) (fun _ h => h.elim)).trans x7 (fun g h => .inl (HFJ.out g h).1) |>.mono (G := fun _ => False) (fun g hg => .inr hg))
                    have Y7 := Lib.hid ((Y6.out.mono (G := fun g => g = b ∨ Fd g) (fun _ h => .inl (.inl h))).trans x7 (fun g h => .inl (.inr h)))
                    clear h7 x7 v1 c0 c1 p0
                    by_cases ha : D.addIR n t x.name = 0
                    · have HSS : Hid (foldO ixStep C (L.take (j + 1)) = some (D.addI n t x.name (dn == 1))) := Lib.hid (by rw [HST.out, HIX2.out, if_pos ha])
                      rw [ha]
                      clear ha
                      go_wp2
                      go_roundw
                      case rel =>
                        have hz7 := Y7.out.size
                        refine ⟨j + 1, D.addI n t x.name (dn == 1), Fd, by omega, by go_num, HSS, HC7, Lib.hid (fun g hg => ⟨(HFJ.out g hg).1, by have := (HFJ.out g hg).2; omega⟩), Lib.hid (fun i b' R' hi h1 h2 => ?_), Lib.hid ?_, HBJ, HOJ, Lib.hid (by have := HWJ.out; omega), HX7⟩
                        · refine (HEJ.out i b' R' (by omega) h1 h2).chg Y7.out (fun h => ?_) (fun g hg h => ?_)
                          · rcases h with h | h
                            · have hp := List.pairwise_iff_getElem.1 HL.out.inc j i hjl (List.getElem?_eq_some_iff.1 h1).1 (by omega)
                              have e1 := (List.getElem?_eq_some_iff.1 h1).2
                              have e2 := (List.getElem?_eq_some_iff.1 HBI.out).2
                              rw [e1, e2] at hp
                              omega
                            · exact HBJ.out b' (List.mem_of_getElem? h1) h
                          · rcases h with h | h
                            · omega
                            · have := (HFJ.out g h).1; omega
                        · refine RowAt.chg HRJ.out Y7.out (fun g hg h => ?_)
                          rcases h with h | h
                          · subst h
                            exact HL.out.apart (HL.out.each j g R HBI.out HRI.out) hg
                          · exact HOJ.out g hg h
                      case measure => simp [intOf]; omega
                    · have HN := Lib.hid (HNO.out (by rw [HIX2.out, if_neg ha]))
                      have hne : (D.addIR n t x.name != 0) = true := by simpa using ha
                      clear ha
                      go_wp2
                      go_ret2
                      rw [HN.out]
                      exact ⟨rfl, HX7.out⟩
            · have hpos : 0 < rl.length := by omega
              have hl0 := Lib.hid h0
              have HN := Lib.hid (HNO.out (by rw [HIX.out, if_neg (by rintro ⟨_, h, _⟩; exact hl0.out h)]))
              clear h0
              go_wp2
              go_ret2
              rw [HN.out, ← HW6.out]
              exact ⟨rfl, HX6.out⟩
        · have HJ := Lib.hid (show j = bs.length by omega)
          go_wp2
          go_ret2
          have h := HSJ.out
          rw [HJ.out, HLE.out, List.take_length] at h
          rw [HRC.out, h]
          exact ⟨⟨r, rfl, HCJ.out.mono (fun g hg _ => (HFJ.out g hg).1)⟩, HXJ.out⟩
end Go.Proofs.Ytpiijcjbphpffaa
