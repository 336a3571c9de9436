/-
  The condition that is asked: read, bound. Conditions: the library's variables stand, the text is as long as a string may be.
-/
import Derived.Test.YtnbckfkdmkbopaaGreatDoorTH28
import Derived.Test.YtnbckfkdmkbopaaGreatDoorTH34
import Derived.Test.YtnbckfkdmkbopaaGreatDoorTH35
set_option autoImplicit false
namespace Go.Proofs.YtnbckfkdmkbopaaGreatDoor
open Go Go.RowKit

def AskOut (text : Str) (w : World) (e : Ending) (w' : World) : Prop :=
  Chg NoB w w' ∧ ∃ (A B : ExF), e = .returned (.tuple #[A.val, B.val, .bool (askedL text).isSome]) ∧ ∀ x y, askedL text = some (x, y) → ExAt w' (fun k => w.heap.size ≤ k) x A ∧ ExAt w' (fun k => w.heap.size ≤ k) y B
theorem results_ask {fn : Func} (h : fn.results = #[.cell 2 29, .cell 3 29, .tmp 4]) (tmps : Array Value) (w : World) (b2 b3 : Nat) (A B : ExF) (hp : tmps.getD 2 undef = .pointer (some ⟨b2, 0, none⟩)) (hp3 : tmps.getD 3 undef = .pointer (some ⟨b3, 0, none⟩)) (hs : w.heap[b2]? = some A.obj) (hs3 : w.heap[b3]? = some B.obj) :
    (results fn tmps).run Tryz.prog w = .ok (.tuple #[A.val, B.val, tmps.getD 4 undef]) w := by
  have hp' : tmps[2]?.getD undef = .pointer (some ⟨b2, 0, none⟩) := by simpa using hp
  have hp3' : tmps[3]?.getD undef = .pointer (some ⟨b3, 0, none⟩) := by simpa using hp3
  have h1 := run_loadVar_mid (P := Tryz.prog) w b2 0 29 A.cells _ (range_block hs) Tryz.underlying29 rfl (by kernel_rfl)
  have h3 := run_loadVar_mid (P := Tryz.prog) w b3 0 29 B.cells _ (range_block hs3) Tryz.underlying29 rfl (by kernel_rfl)
  simp [results, h, hp', hp3', asAddr, h1, h3]
theorem ask_ret {fn : Func} {Q : Ending → World → Prop} {tmps : Array Value} {w : World} {b2 b3 : Nat} (A B : ExF) (h : fn.results = #[.cell 2 29, .cell 3 29, .tmp 4]) (hp : tmps.getD 2 undef = .pointer (some ⟨b2, 0, none⟩)) (hp3 : tmps.getD 3 undef = .pointer (some ⟨b3, 0, none⟩)) (hs : w.heap[b2]? = some A.obj) (hs3 : w.heap[b3]? = some B.obj)
    (hQ : Q (.returned (.tuple #[A.val, B.val, tmps.getD 4 undef])) w) : bodyPost Tryz.prog fn Q Exit.ret ⟨tmps, []⟩ w :=
  bodyPost_ret (results_ask h _ _ b2 b3 A B hp hp3 hs hs3) rfl hQ
theorem cat_sv (a b : Str) : (⟨a.toArray⟩ : ByteArray) ++ ⟨b.toArray⟩ = ⟨(a ++ b).toArray⟩ := by
  apply ByteArray.ext
  simp
theorem BOut.form {r : Option (Ex × Int)} {w w' : World} {e : Ending} (h : BOut r w e w') : ∃ (B : ExF) (t q : Int), e = .returned (.tuple #[B.val, .int .i64 t, .int .i64 q]) ∧ ((r = none ∧ q ≠ 0) ∨ ∃ y, r = some (y, t) ∧ q = 0 ∧ ExAt w' (fun k => w.heap.size ≤ k) y B) ∧ Chg NoB w w' := by
  obtain ⟨c, h⟩ := h
  rcases r with _ | ⟨y, t⟩
  · obtain ⟨t, q, hq, he⟩ := h
    exact ⟨zeroE, t, q, he, .inl ⟨rfl, hq⟩, c⟩
  · obtain ⟨E, he, hx⟩ := h
    exact ⟨E, t, 0, he, .inr ⟨y, rfl, rfl, hx⟩, c⟩
theorem readL_hgt {text : Str} {x : Ex} (h : readL text = some x) : x.hgt ≤ 32 := by
  unfold readL at h
  split at h
  · cases h
  · split at h
    · cases h
    · split at h
      · rename_i hc
        cases h
        simp at hc
        exact hc.2
      · cases h
/-- what stands behind Bind -/
structure AMid (w W2 : World) (x : Ex) (E : ExF) (sb bv b7 : Nat) (t q : Int) (B : ExF) (V : World) : Prop where
  g : W2.heap.size ≤ b7
  h7 : V.heap[b7]? = some B.obj
  c : Chg NoB W2 V
  b : (bindL cols4 x = none ∧ q ≠ 0) ∨ ∃ y, bindL cols4 x = some (y, t) ∧ q = 0 ∧ ExAt V (fun k => W2.heap.size ≤ k ∧ k ≠ b7) y B
theorem ex_set2 {w : World} {b2 b3 : Nat} {Z2 Z3 : ExF} (h2 : w.heap[b2]? = some Z2.obj) (h3 : w.heap[b3]? = some Z3.obj) (hne : b2 ≠ b3) (A B : ExF) :
    (((((((((((((((((w.setCell ⟨b2, 0, none⟩ (.int .i64 A.k)).setCell ⟨b2, 1, none⟩ (.int .i64 A.vk)).setCell ⟨b2, 2, none⟩ (.int .i64 A.vn)).setCell ⟨b2, 3, none⟩ (sv A.vs)).setCell ⟨b2, 4, none⟩ (sv A.t)).setCell ⟨b2, 5, none⟩ (sv A.n)).setCell ⟨b2, 6, none⟩ (.int .i64 A.s)).setCell ⟨b2, 7, none⟩ (.slice A.ao A.m A.c)).setCell
      ⟨b3, 0, none⟩ (.int .i64 B.k)).setCell ⟨b3, 1, none⟩ (.int .i64 B.vk)).setCell ⟨b3, 2, none⟩ (.int .i64 B.vn)).setCell ⟨b3, 3, none⟩ (sv B.vs)).setCell ⟨b3, 4, none⟩ (sv B.t)).setCell ⟨b3, 5, none⟩ (sv B.n)).setCell ⟨b3, 6, none⟩ (.int .i64 B.s)).setCell ⟨b3, 7, none⟩ (.slice B.ao B.m B.c)).heap[b2]? = some A.obj) ∧
    (((((((((((((((((w.setCell ⟨b2, 0, none⟩ (.int .i64 A.k)).setCell ⟨b2, 1, none⟩ (.int .i64 A.vk)).setCell ⟨b2, 2, none⟩ (.int .i64 A.vn)).setCell ⟨b2, 3, none⟩ (sv A.vs)).setCell ⟨b2, 4, none⟩ (sv A.t)).setCell ⟨b2, 5, none⟩ (sv A.n)).setCell ⟨b2, 6, none⟩ (.int .i64 A.s)).setCell ⟨b2, 7, none⟩ (.slice A.ao A.m A.c)).setCell
      ⟨b3, 0, none⟩ (.int .i64 B.k)).setCell ⟨b3, 1, none⟩ (.int .i64 B.vk)).setCell ⟨b3, 2, none⟩ (.int .i64 B.vn)).setCell ⟨b3, 3, none⟩ (sv B.vs)).setCell ⟨b3, 4, none⟩ (sv B.t)).setCell ⟨b3, 5, none⟩ (sv B.n)).setCell ⟨b3, 6, none⟩ (.int .i64 B.s)).setCell ⟨b3, 7, none⟩ (.slice B.ao B.m B.c)).heap[b3]? = some B.obj) ∧
    Chg (fun q => q = b2 ∨ q = b3) w ((((((((((((((((w.setCell ⟨b2, 0, none⟩ (.int .i64 A.k)).setCell ⟨b2, 1, none⟩ (.int .i64 A.vk)).setCell ⟨b2, 2, none⟩ (.int .i64 A.vn)).setCell ⟨b2, 3, none⟩ (sv A.vs)).setCell ⟨b2, 4, none⟩ (sv A.t)).setCell ⟨b2, 5, none⟩ (sv A.n)).setCell ⟨b2, 6, none⟩ (.int .i64 A.s)).setCell ⟨b2, 7, none⟩ (.slice A.ao A.m A.c)).setCell
      ⟨b3, 0, none⟩ (.int .i64 B.k)).setCell ⟨b3, 1, none⟩ (.int .i64 B.vk)).setCell ⟨b3, 2, none⟩ (.int .i64 B.vn)).setCell ⟨b3, 3, none⟩ (sv B.vs)).setCell ⟨b3, 4, none⟩ (sv B.t)).setCell ⟨b3, 5, none⟩ (sv B.n)).setCell ⟨b3, 6, none⟩ (.int .i64 B.s)).setCell ⟨b3, 7, none⟩ (.slice B.ao B.m B.c)) := by
  have cA := chg_set8 (Chg.refl (OneP b2) w) (.inl rfl) (.int .i64 A.k) (.int .i64 A.vk) (.int .i64 A.vn) (sv A.vs) (sv A.t) (sv A.n) (.int .i64 A.s) (.slice A.ao A.m A.c)
  have hA := ex_set h2 A
  have hB := cA.heap h3 (fun e => hne e.symm)
  generalize ((((((((w.setCell ⟨b2, 0, none⟩ (.int .i64 A.k)).setCell ⟨b2, 1, none⟩ (.int .i64 A.vk)).setCell ⟨b2, 2, none⟩ (.int .i64 A.vn)).setCell ⟨b2, 3, none⟩ (sv A.vs)).setCell ⟨b2, 4, none⟩ (sv A.t)).setCell ⟨b2, 5, none⟩ (sv A.n)).setCell ⟨b2, 6, none⟩ (.int .i64 A.s)).setCell ⟨b2, 7, none⟩ (.slice A.ao A.m A.c)) = V at cA hA hB ⊢
  have cB := chg_set8 (Chg.refl (OneP b3) V) (.inl rfl) (.int .i64 B.k) (.int .i64 B.vk) (.int .i64 B.vn) (sv B.vs) (sv B.t) (sv B.n) (.int .i64 B.s) (.slice B.ao B.m B.c)
  exact ⟨cB.heap hA hne, ex_set hB B, (cA.mono (G := fun q => q = b2 ∨ q = b3) (fun q e => .inl (.inl e))).trans cB (fun q e => .inl (.inr e))⟩
set_option maxRecDepth 100000 in
set_option maxHeartbeats 4000000 in
theorem asked_any (text : Str) (w : World) (hg : Glob w) (h10 : 10 ≤ w.heap.size) (ht : text.length ≤ 140737488355328) : Calls Tryz.prog 6 #[sv text] w (AskOut text w) := by
  have X0 : Hid (Chg NoB w ((w.alloc zeroE.obj).alloc zeroE.obj)) := Lib.hid (((Chg.refl NoB w).alloc _).alloc _)
  have Z2 : Hid (((w.alloc zeroE.obj).alloc zeroE.obj).heap[w.heap.size]? = some zeroE.obj) := Lib.hid ((hal_old (by simp)).trans hal_new)
  have Z3 : Hid (((w.alloc zeroE.obj).alloc zeroE.obj).heap[w.heap.size + 1]? = some zeroE.obj) := Lib.hid (hal_new' (by simp))
  have G0 := Lib.hid (hg.quiet X0.out)
  have hlen : (⟨text.toArray⟩ : ByteArray).size ≤ 140737488355328 := by show text.toArray.size ≤ _; simpa using ht
  clear hg
  go_enter Tryz.func6, Tryz.ntmps6
  go_wp2_with fail
  have hcat : (⟨#[100, 101, 108, 101, 116, 101, 32, 102, 114, 111, 109, 32, 116, 32, 119, 104, 101, 114, 101, 32]⟩ : ByteArray) ++ ⟨text.toArray⟩ = ⟨(pre ++ text).toArray⟩ := cat_sv pre text
  rw [hcat]
  clear hcat
  refine (parse_any text _ G0.out (by simp; omega) (by rw [List.length_append]; have : pre.length = 20 := rfl; omega)).mono ?_
  intro e w1 ho
  have X1 := Lib.hid (X0.out.trans ho.1 (fun _ h => h.elim))
  have A1 := Lib.hid (ho.1.heap Z2.out (fun h => h))
  have B1 := Lib.hid (ho.1.heap Z3.out (fun h => h))
  have s0 : w.heap.size + 1 < w1.heap.size := lt_of_heap B1.out
  have s0' : w.heap.size < w1.heap.size := lt_of_heap A1.out
  obtain ⟨r, hr⟩ : ∃ r, readL text = r := ⟨_, rfl⟩
  have HR := Lib.hid hr
  rw [hr] at ho
  clear hr X0 Z2 Z3 G0
  rcases r with _ | x
  · obtain ⟨_, q, hq, he⟩ := ho
    simp only [zeroSt] at he
    subst he
    have b1 : (q != 0) = true := by simpa using hq
    have HA : Hid (askedL text = none) := Lib.hid (by unfold askedL; rw [HR.out])
    obtain ⟨z0, z1, z2, z3, z4, z5, z6, z7⟩ := ExCells.of A1.out
    obtain ⟨y0, y1, y2, y3, y4, y5, y6, y7⟩ := ExCells.of B1.out
    have fz : ∀ o, w1.frozen? ⟨w.heap.size, o, none⟩ = false := fun o => frozen_of_row w1 _ o _ _ A1.out
    have fy : ∀ o, w1.frozen? ⟨w.heap.size + 1, o, none⟩ = false := fun o => frozen_of_row w1 _ o _ _ B1.out
    go_wp2_with fail
    obtain ⟨h2, h3, hc⟩ := ex_set2 A1.out B1.out (by omega) zeroE zeroE
    generalize World.setCell _ _ _ = V at h2 h3 hc ⊢
    exact ask_ret zeroE zeroE rfl rfl rfl ((hal_old (lt_of_heap h2)).trans h2) ((hal_old (lt_of_heap h3)).trans h3) ⟨X1.out.trans (hc.alloc _) (fun q e => .inr (by omega)), zeroE, zeroE, by rw [HA.out]; rfl, fun x y h => by rw [HA.out] at h; cases h⟩
  · obtain ⟨_, v, he, hx⟩ := ho
    obtain ⟨bv, rfl⟩ := hx.sl
    simp only [delVal, delCells] at he
    subst he
    obtain ⟨bv', E, hbe, hbv1, hlo, hE1, hX1⟩ := hx
    simp only [Value.slice.injEq, Option.some.injEq, Addr.mk.injEq] at hbe
    obtain ⟨⟨rfl, _⟩, _⟩ := hbe
    simp only [World.size_alloc] at hlo hX1
    go_wp2_with fail
    obtain ⟨sb, hsb⟩ : ∃ sb, w1.heap.size = sb := ⟨_, rfl⟩
    have XS := (Chg.refl NoB w1).alloc (.cells (delCells (.slice (some ⟨bv, 0, none⟩) 1 1)).toArray 61)
    have X2 := Lib.hid (X1.out.trans XS (fun _ h => .inl h))
    have A2 := Lib.hid (XS.heap A1.out (fun h => h))
    have B2 := Lib.hid (XS.heap B1.out (fun h => h))
    have T2 : Hid ((w1.alloc (.cells (delCells (.slice (some ⟨bv, 0, none⟩) 1 1)).toArray 61)).heap[sb]? = some (.cells (delCells (.slice (some ⟨bv, 0, none⟩) 1 1)).toArray 61 (0, 0))) := Lib.hid (hal_new' hsb.symm)
    have HEX := Lib.hid (range_of_heap (XS.keep bv hbv1 (fun h => h)) hE1)
    have HXA2 := Lib.hid (ExAt.quiet XS (hX1.mono (G := fun k => w.heap.size + 1 + 1 ≤ k) (fun k hk _ => by omega)))
    have hbv : bv < (w1.alloc (.cells (delCells (.slice (some ⟨bv, 0, none⟩) 1 1)).toArray 61)).heap.size := Nat.lt_of_lt_of_le hbv1 XS.size
    generalize hW2 : w1.alloc _ = W2
    rw [show w1.alloc (.cells (delCells (.slice (some ⟨bv, 0, none⟩) 1 1)).toArray 61) = W2 from hW2] at X2 A2 B2 T2 HEX HXA2 hbv
    rw [hsb]
    have HXH : Hid (x.hgt ≤ 100000) := Lib.hid (by have := readL_hgt HR.out; omega)
    have hbv2 : w.heap.size + 1 < bv := by omega
    have hsb2 : w.heap.size + 1 < sb := by omega
    clear hW2 hsb XS hE1 hX1 hbv1 hlo X1 A1 B1 s0 s0'
    go_upto_region 4 with (fail)
    go_cut [7, 8, 9] (fun s7 s8 s9 wx => ∃ (b7 : Nat) (t q : Int) (B : ExF), s7 = .pointer (some ⟨b7, 0, none⟩) ∧ s8 = .int .i64 t ∧ s9 = .int .i64 q ∧ Hid (AMid w W2 x E sb bv b7 t q B wx))
    case first =>
      have HS : Hid (∀ V, Chg NoB W2.drew V → V.cell? ⟨sb, 8, none⟩ = some (.slice (some ⟨bv, 0, none⟩) 1 1) ∧ V.cell? ⟨bv, 0, none⟩ = some (Value.int .i64 E.k) ∧ V.cell? ⟨bv, 1, none⟩ = some (Value.int .i64 E.vk) ∧ V.cell? ⟨bv, 2, none⟩ = some (Value.int .i64 E.vn) ∧ V.cell? ⟨bv, 3, none⟩ = some (sv E.vs) ∧ V.cell? ⟨bv, 4, none⟩ = some (sv E.t) ∧ V.cell? ⟨bv, 5, none⟩ = some (sv E.n) ∧ V.cell? ⟨bv, 6, none⟩ = some (Value.int .i64 E.s) ∧ V.cell? ⟨bv, 7, none⟩ = some (Value.slice E.ao E.m E.c)) := Lib.hid fun V c => by
        have cw : Chg NoB W2 V := Chg.trans (Chg.refl NoB W2).drew c (fun _ h => .inl h)
        obtain ⟨e0, e1, e2, e3, e4, e5, e6, e7⟩ := ex_range (range_of_heap (cw.keep bv hbv (fun h => h)) HEX.out)
        exact ⟨cell_of_row V _ 8 _ _ _ (cw.heap T2.out (fun h => h)), e0, e1, e2, e3, e4, e5, e6, e7⟩
      have HXA : Hid (ExAt W2.drew (fun k => w.heap.size + 1 + 1 ≤ k) x E) := Lib.hid (ExAt.quiet (Chg.refl NoB W2).drew HXA2.out)
      have HM : Hid (∀ (V : World) (b7 : Nat) (t q : Int) (B : ExF), W2.drew.heap.size ≤ b7 → V.heap[b7]? = some B.obj → Chg NoB W2.drew V → ((bindL cols4 x = none ∧ q ≠ 0) ∨ ∃ y, bindL cols4 x = some (y, t) ∧ q = 0 ∧ ExAt V (fun k => W2.drew.heap.size ≤ k ∧ k ≠ b7) y B) → AMid w W2 x E sb bv b7 t q B V) := Lib.hid fun V b7 t q B g p c hb =>
        ⟨g, p, Chg.trans (Chg.refl NoB W2).drew c (fun _ h => .inl h), hb⟩
      refine wp_region_lexF (fun V => V.cell? ⟨sb, 8, none⟩ = some (.slice (some ⟨bv, 0, none⟩) 1 1) ∧ V.cell? ⟨bv, 0, none⟩ = some (Value.int .i64 E.k) ∧ V.cell? ⟨bv, 1, none⟩ = some (Value.int .i64 E.vk) ∧ V.cell? ⟨bv, 2, none⟩ = some (Value.int .i64 E.vn) ∧ V.cell? ⟨bv, 3, none⟩ = some (sv E.vs) ∧ V.cell? ⟨bv, 4, none⟩ = some (sv E.t) ∧ V.cell? ⟨bv, 5, none⟩ = some (sv E.n) ∧ V.cell? ⟨bv, 6, none⟩ = some (Value.int .i64 E.s) ∧ V.cell? ⟨bv, 7, none⟩ = some (Value.slice E.ao E.m E.c)) 99 (.free 0 (.free 1 (.free 2 (.free 3 (.fork 4 10 (.fork 5 10 (.free 6 (.free 7 (.free 8 (.free 9 (.one 10 (.one 11 (.free 12 (.free 13 .done)))))))) (.one 5 (.free 6 (.free 7 (.free 8 (.free 9 (.one 11 (.free 12 (.free 13 .done))))))))) (.one 4 (.one 5 (.free 6 (.free 7 (.free 8 (.free 9 (.one 11 (.free 12 (.free 13 .done)))))))))))))) (by kernel_rfl) (by kernel_rfl) (HS.out _ (Chg.refl _ _)) ?_
      have C : Hid (Chg NoB W2.drew W2.drew) := Lib.hid (Chg.refl _ _)
      generalize W2.drew = V0 at HS HXA HM C ⊢
      obtain ⟨z0, hz0⟩ : ∃ z, z = V0.heap.size := ⟨_, rfl⟩
      have HZ := Lib.hid hz0
      clear hz0
      iterate 4
        refine' lexF_free (v := _) rfl rfl ?_ (fun _ _ _ h => h) ?_
        rotate_left
        · rintro W ⟨h1, h2, h3, h4, h5, h6, h7, h8, h9⟩
          go_simp
          with_reducible rfl
        try simp only [Act.put, List.setIfInBounds_toArray, List.set_cons_zero, List.set_cons_succ]
      refine lexF_fork rfl rfl rfl rfl ?_ ?_
      · intro K hK
        go_simp
        refine (scope_any _).mono ?_
        intro e V1 ho
        obtain ⟨so, sc, rfl, hsc, c4⟩ := ho
        replace C := Lib.hid (C.out.trans c4 (fun _ h => .inl h))
        have SC := Lib.hid hsc
        clear hsc c4
        refine hK _ _ (fun _ => HS.out _ C.out) ?_
        clear hK K
        try simp only [Act.put, List.setIfInBounds_toArray, List.set_cons_zero, List.set_cons_succ]
        have GS : Hid (z0 ≤ V1.heap.size) := Lib.hid (by have := C.out.size; have := HZ.out; omega)
        refine lexF_fork rfl rfl rfl rfl ?_ ?_
        · intro K hK
          go_simp
          refine (bind_any 100000 x E _ _ so sc cols4 _ HXH.out (by decide) (ExAt.quiet C.out HXA.out) SC.out).mono ?_
          intro e V2 ho
          obtain ⟨B, t, q, rfl, hb, c5⟩ := ho.form
          replace C := Lib.hid (C.out.trans c5 (fun _ h => .inl h))
          have HB : Hid ((bindL cols4 x = none ∧ q ≠ 0) ∨ ∃ y, bindL cols4 x = some (y, t) ∧ q = 0 ∧ ExAt V2 (fun k => z0 ≤ k ∧ k < V2.heap.size) y B) := Lib.hid (by
            rcases hb with h | ⟨y, h1, h2, h3⟩
            · exact .inl h
            · refine .inr ⟨y, h1, h2, h3.mono fun k hk hl => ⟨by have := GS.out; omega, hl⟩⟩)
          clear ho hb c5
          refine hK _ _ (fun _ => HS.out _ C.out) ?_
          clear hK K
          try simp only [Act.put, List.setIfInBounds_toArray, List.set_cons_zero, List.set_cons_succ]
          iterate 4
            refine' lexF_free (v := _) rfl rfl ?_ (fun _ _ _ h => h) ?_
            rotate_left
            · rintro W ⟨h1, h2, h3, h4, h5, h6, h7, h8, h9⟩
              go_simp
              with_reducible rfl
            try simp only [Act.put, List.setIfInBounds_toArray, List.set_cons_zero, List.set_cons_succ]
          refine lexF_one rfl rfl ?_
          intro K hK
          go_simp
          have P10 : Hid ((V2.alloc zeroE.obj).heap[V2.heap.size]? = some zeroE.obj) := Lib.hid hal_new
          have G10 : Hid (z0 ≤ V2.heap.size) := Lib.hid (by have := C.out.size; have := HZ.out; omega)
          replace C : Hid (Chg NoB V0 (V2.alloc zeroE.obj)) := Lib.hid (C.out.alloc _)
          have HB' : Hid ((bindL cols4 x = none ∧ q ≠ 0) ∨ ∃ y, bindL cols4 x = some (y, t) ∧ q = 0 ∧ ExAt (V2.alloc zeroE.obj) (fun k => z0 ≤ k ∧ k ≠ V2.heap.size) y B) := Lib.hid (by
            rcases HB.out with h | ⟨y, h1, h2, h3⟩
            · exact .inl h
            · exact .inr ⟨y, h1, h2, (ExAt.quiet ((Chg.refl NoB V2).alloc zeroE.obj) h3).mono fun k hk _ => ⟨hk.1, by have := hk.2; omega⟩⟩)
          refine hK _ _ (fun _ => HS.out _ C.out) ?_
          clear hK K
          try simp only [Act.put, List.setIfInBounds_toArray, List.set_cons_zero, List.set_cons_succ]
          generalize hWW : V2.alloc _ = V3
          rw [show V2.alloc zeroE.obj = V3 from hWW] at P10 C HB'
          obtain ⟨b10, hbb⟩ : ∃ b, V2.heap.size = b := ⟨_, rfl⟩
          rw [hbb] at P10 G10 HB' ⊢
          clear hWW
          clear HB
          have HB := HB'
          clear HB' hbb
          obtain ⟨d0, d1, d2, d3, d4, d5, d6, d7⟩ := ExCells.of P10.out
          have fd : ∀ o, V3.frozen? ⟨b10, o, none⟩ = false := fun o => frozen_of_row V3 _ o _ _ P10.out
          refine lexF_one rfl rfl ?_
          intro K hK
          go_simp
          have c8 := chg_set8 (Chg.refl (OneP b10) V3) (.inl rfl) (.int .i64 B.k) (.int .i64 B.vk) (.int .i64 B.vn) (sv B.vs) (sv B.t) (sv B.n) (.int .i64 B.s) (.slice B.ao B.m B.c)
          have P := Lib.hid (ex_set P10.out B)
          replace C := Lib.hid (C.out.trans c8 (fun q e => .inr (by unfold OneP at e; have := G10.out; have := HZ.out; omega)))
          have HB9 := Lib.hid (show (bindL cols4 x = none ∧ q ≠ 0) ∨ ∃ y, bindL cols4 x = some (y, t) ∧ q = 0 ∧ ExAt _ (fun k => z0 ≤ k ∧ k ≠ b10) y B by
            rcases HB.out with h | ⟨y, h1, h2, h3⟩
            · exact .inl h
            · exact .inr ⟨y, h1, h2, ExAt.chg c8 (fun k hk e => hk.2 e) _ _ h3⟩)
          clear c8
          refine hK _ _ (fun _ => HS.out _ C.out) ?_
          clear hK K
          try simp only [Act.put, List.setIfInBounds_toArray, List.set_cons_zero, List.set_cons_succ]
          iterate 2
            refine' lexF_free (v := _) rfl rfl ?_ (fun _ _ _ h => h) ?_
            rotate_left
            · rintro W ⟨h1, h2, h3, h4, h5, h6, h7, h8, h9⟩
              go_simp
              with_reducible rfl
            try simp only [Act.put, List.setIfInBounds_toArray, List.set_cons_zero, List.set_cons_succ]
          refine lexF_done ?_
          clear d0 d1 d2 d3 d4 d5 d6 d7 fd
          go_wp2_with fail
          go_meet
          exact ⟨b10, t, q, B, rfl, rfl, rfl, Lib.hid (HM.out _ b10 t q B (by have := G10.out; have := HZ.out; omega) P.out C.out (by have := HZ.out; rw [← this]; exact HB9.out))⟩
        · intro K hK
          go_simp
          have P10 : Hid ((V1.alloc zeroE.obj).heap[V1.heap.size]? = some zeroE.obj) := Lib.hid hal_new
          have G10 : Hid (z0 ≤ V1.heap.size) := Lib.hid (by have := C.out.size; have := HZ.out; omega)
          replace C : Hid (Chg NoB V0 (V1.alloc zeroE.obj)) := Lib.hid (C.out.alloc _)
          have SC' := Lib.hid (RowAt.quiet SC.out ((Chg.refl NoB V1).alloc zeroE.obj))
          refine hK _ _ (fun _ => HS.out _ C.out) ?_
          clear hK K
          try simp only [Act.put, List.setIfInBounds_toArray, List.set_cons_zero, List.set_cons_succ]
          have Gnew : Hid (V1.heap.size < (V1.alloc zeroE.obj).heap.size) := Lib.hid (lt_of_heap P10.out)
          generalize hWW : V1.alloc _ = V2
          rw [show V1.alloc zeroE.obj = V2 from hWW] at P10 C SC' Gnew
          obtain ⟨b10, hbb⟩ : ∃ b, V1.heap.size = b := ⟨_, rfl⟩
          rw [hbb] at P10 G10 Gnew ⊢
          clear hWW
          have G10b := Gnew
          clear SC
          have SC := SC'
          clear SC' hbb
          refine lexF_one rfl rfl ?_
          intro K hK
          go_simp
          refine (bind_any 100000 x E _ _ so sc cols4 _ HXH.out (by decide) (ExAt.quiet C.out HXA.out) SC.out).mono ?_
          intro e V3 ho
          obtain ⟨B, t, q, rfl, hb, c5⟩ := ho.form
          replace C := Lib.hid (C.out.trans c5 (fun _ h => .inl h))
          replace P10 := Lib.hid (c5.heap P10.out (fun h => h))
          have HB : Hid ((bindL cols4 x = none ∧ q ≠ 0) ∨ ∃ y, bindL cols4 x = some (y, t) ∧ q = 0 ∧ ExAt V3 (fun k => z0 ≤ k ∧ k ≠ b10) y B) := Lib.hid (by
            rcases hb with h | ⟨y, h1, h2, h3⟩
            · exact .inl h
            · refine .inr ⟨y, h1, h2, h3.mono fun k hk _ => ⟨by have := G10b.out; have := G10.out; omega, by have := G10b.out; omega⟩⟩)
          clear ho hb c5
          refine hK _ _ (fun _ => HS.out _ C.out) ?_
          clear hK K
          try simp only [Act.put, List.setIfInBounds_toArray, List.set_cons_zero, List.set_cons_succ]
          iterate 4
            refine' lexF_free (v := _) rfl rfl ?_ (fun _ _ _ h => h) ?_
            rotate_left
            · rintro W ⟨h1, h2, h3, h4, h5, h6, h7, h8, h9⟩
              go_simp
              with_reducible rfl
            try simp only [Act.put, List.setIfInBounds_toArray, List.set_cons_zero, List.set_cons_succ]
          obtain ⟨d0, d1, d2, d3, d4, d5, d6, d7⟩ := ExCells.of P10.out
          have fd : ∀ o, V3.frozen? ⟨b10, o, none⟩ = false := fun o => frozen_of_row V3 _ o _ _ P10.out
          refine lexF_one rfl rfl ?_
          intro K hK
          go_simp
          have c8 := chg_set8 (Chg.refl (OneP b10) V3) (.inl rfl) (.int .i64 B.k) (.int .i64 B.vk) (.int .i64 B.vn) (sv B.vs) (sv B.t) (sv B.n) (.int .i64 B.s) (.slice B.ao B.m B.c)
          have P := Lib.hid (ex_set P10.out B)
          replace C := Lib.hid (C.out.trans c8 (fun q e => .inr (by unfold OneP at e; have := G10.out; have := HZ.out; omega)))
          have HB9 := Lib.hid (show (bindL cols4 x = none ∧ q ≠ 0) ∨ ∃ y, bindL cols4 x = some (y, t) ∧ q = 0 ∧ ExAt _ (fun k => z0 ≤ k ∧ k ≠ b10) y B by
            rcases HB.out with h | ⟨y, h1, h2, h3⟩
            · exact .inl h
            · exact .inr ⟨y, h1, h2, ExAt.chg c8 (fun k hk e => hk.2 e) _ _ h3⟩)
          clear c8
          refine hK _ _ (fun _ => HS.out _ C.out) ?_
          clear hK K
          try simp only [Act.put, List.setIfInBounds_toArray, List.set_cons_zero, List.set_cons_succ]
          iterate 2
            refine' lexF_free (v := _) rfl rfl ?_ (fun _ _ _ h => h) ?_
            rotate_left
            · rintro W ⟨h1, h2, h3, h4, h5, h6, h7, h8, h9⟩
              go_simp
              with_reducible rfl
            try simp only [Act.put, List.setIfInBounds_toArray, List.set_cons_zero, List.set_cons_succ]
          refine lexF_done ?_
          clear d0 d1 d2 d3 d4 d5 d6 d7 fd
          go_wp2_with fail
          go_meet
          exact ⟨b10, t, q, B, rfl, rfl, rfl, Lib.hid (HM.out _ b10 t q B (by have := G10.out; have := HZ.out; omega) P.out C.out (by have := HZ.out; rw [← this]; exact HB9.out))⟩
      · intro K hK
        go_simp
        have P10 : Hid ((V0.alloc zeroE.obj).heap[V0.heap.size]? = some zeroE.obj) := Lib.hid hal_new
        have G10 : Hid (z0 ≤ V0.heap.size) := Lib.hid (by have := C.out.size; have := HZ.out; omega)
        replace C : Hid (Chg NoB V0 (V0.alloc zeroE.obj)) := Lib.hid (C.out.alloc _)
        refine hK _ _ (fun _ => HS.out _ C.out) ?_
        clear hK K
        try simp only [Act.put, List.setIfInBounds_toArray, List.set_cons_zero, List.set_cons_succ]
        have Gnew : Hid (V0.heap.size < (V0.alloc zeroE.obj).heap.size) := Lib.hid (lt_of_heap P10.out)
        generalize hWW : V0.alloc _ = V1
        rw [show V0.alloc zeroE.obj = V1 from hWW] at P10 C Gnew
        obtain ⟨b10, hbb⟩ : ∃ b, V0.heap.size = b := ⟨_, rfl⟩
        rw [hbb] at P10 G10 Gnew ⊢
        clear hWW
        clear hbb Gnew
        refine lexF_one rfl rfl ?_
        intro K hK
        go_simp
        refine (scope_any _).mono ?_
        intro e V2 ho
        obtain ⟨so, sc, rfl, hsc, c4⟩ := ho
        replace C := Lib.hid (C.out.trans c4 (fun _ h => .inl h))
        have SC := Lib.hid hsc
        replace P10 := Lib.hid (c4.heap P10.out (fun h => h))
        have G10b : Hid (b10 < V2.heap.size) := Lib.hid (lt_of_heap P10.out)
        clear hsc c4
        refine hK _ _ (fun _ => HS.out _ C.out) ?_
        clear hK K
        try simp only [Act.put, List.setIfInBounds_toArray, List.set_cons_zero, List.set_cons_succ]
        refine lexF_one rfl rfl ?_
        intro K hK
        go_simp
        refine (bind_any 100000 x E _ _ so sc cols4 _ HXH.out (by decide) (ExAt.quiet C.out HXA.out) SC.out).mono ?_
        intro e V3 ho
        obtain ⟨B, t, q, rfl, hb, c5⟩ := ho.form
        replace C := Lib.hid (C.out.trans c5 (fun _ h => .inl h))
        replace P10 := Lib.hid (c5.heap P10.out (fun h => h))
        have HB : Hid ((bindL cols4 x = none ∧ q ≠ 0) ∨ ∃ y, bindL cols4 x = some (y, t) ∧ q = 0 ∧ ExAt V3 (fun k => z0 ≤ k ∧ k ≠ b10) y B) := Lib.hid (by
          rcases hb with h | ⟨y, h1, h2, h3⟩
          · exact .inl h
          · refine .inr ⟨y, h1, h2, h3.mono fun k hk _ => ⟨by have := G10b.out; have := G10.out; omega, by have := G10b.out; omega⟩⟩)
        clear ho hb c5
        refine hK _ _ (fun _ => HS.out _ C.out) ?_
        clear hK K
        try simp only [Act.put, List.setIfInBounds_toArray, List.set_cons_zero, List.set_cons_succ]
        iterate 4
          refine' lexF_free (v := _) rfl rfl ?_ (fun _ _ _ h => h) ?_
          rotate_left
          · rintro W ⟨h1, h2, h3, h4, h5, h6, h7, h8, h9⟩
            go_simp
            with_reducible rfl
          try simp only [Act.put, List.setIfInBounds_toArray, List.set_cons_zero, List.set_cons_succ]
        obtain ⟨d0, d1, d2, d3, d4, d5, d6, d7⟩ := ExCells.of P10.out
        have fd : ∀ o, V3.frozen? ⟨b10, o, none⟩ = false := fun o => frozen_of_row V3 _ o _ _ P10.out
        refine lexF_one rfl rfl ?_
        intro K hK
        go_simp
        have c8 := chg_set8 (Chg.refl (OneP b10) V3) (.inl rfl) (.int .i64 B.k) (.int .i64 B.vk) (.int .i64 B.vn) (sv B.vs) (sv B.t) (sv B.n) (.int .i64 B.s) (.slice B.ao B.m B.c)
        have P := Lib.hid (ex_set P10.out B)
        replace C := Lib.hid (C.out.trans c8 (fun q e => .inr (by unfold OneP at e; have := G10.out; have := HZ.out; omega)))
        have HB9 := Lib.hid (show (bindL cols4 x = none ∧ q ≠ 0) ∨ ∃ y, bindL cols4 x = some (y, t) ∧ q = 0 ∧ ExAt _ (fun k => z0 ≤ k ∧ k ≠ b10) y B by
          rcases HB.out with h | ⟨y, h1, h2, h3⟩
          · exact .inl h
          · exact .inr ⟨y, h1, h2, ExAt.chg c8 (fun k hk e => hk.2 e) _ _ h3⟩)
        clear c8
        refine hK _ _ (fun _ => HS.out _ C.out) ?_
        clear hK K
        try simp only [Act.put, List.setIfInBounds_toArray, List.set_cons_zero, List.set_cons_succ]
        iterate 2
          refine' lexF_free (v := _) rfl rfl ?_ (fun _ _ _ h => h) ?_
          rotate_left
          · rintro W ⟨h1, h2, h3, h4, h5, h6, h7, h8, h9⟩
            go_simp
            with_reducible rfl
          try simp only [Act.put, List.setIfInBounds_toArray, List.set_cons_zero, List.set_cons_succ]
        refine lexF_done ?_
        clear d0 d1 d2 d3 d4 d5 d6 d7 fd
        go_wp2_with fail
        go_meet
        exact ⟨b10, t, q, B, rfl, rfl, rfl, Lib.hid (HM.out _ b10 t q B (by have := G10.out; have := HZ.out; omega) P.out C.out (by have := HZ.out; rw [← this]; exact HB9.out))⟩
    case rest =>
      obtain ⟨b7, t, q, B, rfl, rfl, rfl, HAM⟩ := hcut
      have X3 := Lib.hid (X2.out.trans HAM.out.c (fun _ h => .inl h))
      have A3 := Lib.hid (HAM.out.c.heap A2.out (fun h => h))
      have B3 := Lib.hid (HAM.out.c.heap B2.out (fun h => h))
      have g7 := HAM.out.g
      have lB := lt_of_heap B2.out
      have HXX := Lib.hid (ExAt.quiet HAM.out.c HXA2.out)
      have HS : Hid (∀ V, Chg (fun k => k = w.heap.size ∨ k = w.heap.size + 1) wc V → V.cell? ⟨sb, 8, none⟩ = some (.slice (some ⟨bv, 0, none⟩) 1 1) ∧ V.cell? ⟨bv, 0, none⟩ = some (Value.int .i64 E.k) ∧ V.cell? ⟨bv, 1, none⟩ = some (Value.int .i64 E.vk) ∧ V.cell? ⟨bv, 2, none⟩ = some (Value.int .i64 E.vn) ∧ V.cell? ⟨bv, 3, none⟩ = some (sv E.vs) ∧ V.cell? ⟨bv, 4, none⟩ = some (sv E.t) ∧ V.cell? ⟨bv, 5, none⟩ = some (sv E.n) ∧ V.cell? ⟨bv, 6, none⟩ = some (Value.int .i64 E.s) ∧ V.cell? ⟨bv, 7, none⟩ = some (Value.slice E.ao E.m E.c) ∧ V.cell? ⟨b7, 0, none⟩ = some (Value.int .i64 B.k) ∧ V.cell? ⟨b7, 1, none⟩ = some (Value.int .i64 B.vk) ∧ V.cell? ⟨b7, 2, none⟩ = some (Value.int .i64 B.vn) ∧ V.cell? ⟨b7, 3, none⟩ = some (sv B.vs) ∧ V.cell? ⟨b7, 4, none⟩ = some (sv B.t) ∧ V.cell? ⟨b7, 5, none⟩ = some (sv B.n) ∧ V.cell? ⟨b7, 6, none⟩ = some (Value.int .i64 B.s) ∧ V.cell? ⟨b7, 7, none⟩ = some (Value.slice B.ao B.m B.c)) := Lib.hid fun V c => by
        obtain ⟨e0, e1, e2, e3, e4, e5, e6, e7⟩ := ex_range (range_of_heap (c.keep bv (Nat.lt_of_lt_of_le hbv HAM.out.c.size) (by omega)) (range_of_heap (HAM.out.c.keep bv hbv (fun h => h)) HEX.out))
        obtain ⟨d0, d1, d2, d3, d4, d5, d6, d7⟩ := ExCells.of (c.heap HAM.out.h7 (by omega))
        exact ⟨cell_of_row V _ 8 _ _ _ (c.heap (HAM.out.c.heap T2.out (fun h => h)) (by omega)), e0, e1, e2, e3, e4, e5, e6, e7, d0, d1, d2, d3, d4, d5, d6, d7⟩
      have HBB := Lib.hid HAM.out.b
      rcases HBB.out with ⟨hbn, hq0⟩ | ⟨y, hby, hq0, hyx⟩
      · have b1 : (q == 0) = false := by simpa using hq0
        have HA : Hid (askedL text = none) := Lib.hid (by unfold askedL; rw [HR.out]; simp only [hbn])
        clear hbn hq0
        go_wp2_with fail
        refine wp_region_lex (fun V => V.cell? ⟨sb, 8, none⟩ = some (.slice (some ⟨bv, 0, none⟩) 1 1) ∧ V.cell? ⟨bv, 0, none⟩ = some (Value.int .i64 E.k) ∧ V.cell? ⟨bv, 1, none⟩ = some (Value.int .i64 E.vk) ∧ V.cell? ⟨bv, 2, none⟩ = some (Value.int .i64 E.vn) ∧ V.cell? ⟨bv, 3, none⟩ = some (sv E.vs) ∧ V.cell? ⟨bv, 4, none⟩ = some (sv E.t) ∧ V.cell? ⟨bv, 5, none⟩ = some (sv E.n) ∧ V.cell? ⟨bv, 6, none⟩ = some (Value.int .i64 E.s) ∧ V.cell? ⟨bv, 7, none⟩ = some (Value.slice E.ao E.m E.c) ∧ V.cell? ⟨b7, 0, none⟩ = some (Value.int .i64 B.k) ∧ V.cell? ⟨b7, 1, none⟩ = some (Value.int .i64 B.vk) ∧ V.cell? ⟨b7, 2, none⟩ = some (Value.int .i64 B.vn) ∧ V.cell? ⟨b7, 3, none⟩ = some (sv B.vs) ∧ V.cell? ⟨b7, 4, none⟩ = some (sv B.t) ∧ V.cell? ⟨b7, 5, none⟩ = some (sv B.n) ∧ V.cell? ⟨b7, 6, none⟩ = some (Value.int .i64 B.s) ∧ V.cell? ⟨b7, 7, none⟩ = some (Value.slice B.ao B.m B.c)) 99 [15, 16] [0, 1, 2, 3, 4, 5, 6, 7, 8, 9, 10, 11, 12, 13, 14, 15, 16, 17] (by kernel_rfl) (by kernel_rfl) (HS.out _ (Chg.refl (fun k => k = w.heap.size ∨ k = w.heap.size + 1) wc).drew) ?_
        iterate 8
          refine' lex_free (v := _) rfl rfl rfl ?_ (fun _ _ _ h => h) ?_
          rotate_left
          · rintro W ⟨h1, h2, h3, h4, h5, h6, h7, h8, h9, h10, h11, h12, h13, h14, h15, h16, h17⟩
            go_simp
            with_reducible rfl
          try simp only [Act.put, List.setIfInBounds_toArray, List.set_cons_zero, List.set_cons_succ]
        iterate 3
          refine lex_skip rfl rfl rfl (fun _ _ _ h => h) ?_
          try simp only [Act.put, List.setIfInBounds_toArray, List.set_cons_zero, List.set_cons_succ]
        iterate 2
          refine lex_skip rfl rfl rfl (fun _ _ _ h => h) ?_
          try simp only [Act.put, List.setIfInBounds_toArray, List.set_cons_zero, List.set_cons_succ]
        iterate 1
          refine lex_skip rfl rfl rfl (fun _ _ _ h => h) ?_
          try simp only [Act.put, List.setIfInBounds_toArray, List.set_cons_zero, List.set_cons_succ]
        iterate 1
          refine' lex_free (v := _) rfl rfl rfl ?_ (fun _ _ _ h => h) ?_
          rotate_left
          · rintro W ⟨h1, h2, h3, h4, h5, h6, h7, h8, h9, h10, h11, h12, h13, h14, h15, h16, h17⟩
            go_simp
            with_reducible rfl
          try simp only [Act.put, List.setIfInBounds_toArray, List.set_cons_zero, List.set_cons_succ]
        obtain ⟨z0, z1, z2, z3, z4, z5, z6, z7⟩ := ExCells.of A3.out
        obtain ⟨y0, y1, y2, y3, y4, y5, y6, y7⟩ := ExCells.of B3.out
        have fz : ∀ o, wc.frozen? ⟨w.heap.size, o, none⟩ = false := fun o => frozen_of_row wc _ o _ _ A3.out
        have fy : ∀ o, wc.frozen? ⟨w.heap.size + 1, o, none⟩ = false := fun o => frozen_of_row wc _ o _ _ B3.out
        have cA := (chg_set8 (Chg.refl (fun k => k = w.heap.size ∨ k = w.heap.size + 1) wc) (.inl (.inl rfl)) (.int .i64 E.k) (.int .i64 E.vk) (.int .i64 E.vn) (sv E.vs) (sv E.t) (sv E.n) (.int .i64 E.s) (.slice E.ao E.m E.c)).drew
        have SA := Lib.hid (HS.out _ cA)
        obtain ⟨q2, q3, qc⟩ := ex_set2 A3.out B3.out (by omega) E B
        have SB := Lib.hid (HS.out _ qc.drew)
        have Q2 := Lib.hid q2
        have Q3 := Lib.hid q3
        have QC := Lib.hid qc
        clear cA q2 q3 qc
        refine lex_op rfl rfl rfl (fun K hK => ?_)
        go_simp
        refine hK _ _ (fun _ => SA.out) ?_
        clear hK K
        try simp only [Act.put, List.setIfInBounds_toArray, List.set_cons_zero, List.set_cons_succ]
        refine lex_op rfl rfl rfl (fun K hK => ?_)
        go_simp
        refine hK _ _ (fun _ => SB.out) ?_
        clear hK K
        try simp only [Act.put, List.setIfInBounds_toArray, List.set_cons_zero, List.set_cons_succ]
        iterate 1
          refine' lex_free (v := _) rfl rfl rfl ?_ (fun _ _ _ h => h) ?_
          rotate_left
          · rintro W ⟨h1, h2, h3, h4, h5, h6, h7, h8, h9, h10, h11, h12, h13, h14, h15, h16, h17⟩
            go_simp
            with_reducible rfl
          try simp only [Act.put, List.setIfInBounds_toArray, List.set_cons_zero, List.set_cons_succ]
        refine lex_nil ?_
        clear z0 z1 z2 z3 z4 z5 z6 z7 y0 y1 y2 y3 y4 y5 y6 y7 fz fy SA SB
        go_wp2_with fail
        generalize World.setCell _ _ _ = V at Q2 Q3 QC ⊢
        exact ask_ret E B rfl rfl rfl (show V.drew.heap[_]? = _ from Q2.out) (show V.drew.heap[_]? = _ from Q3.out) ⟨X3.out.trans QC.out.drew (fun q e => .inr (by omega)), E, B, by rw [HA.out]; rfl, fun x' y' h => by rw [HA.out] at h; cases h⟩
      · subst hq0
        have HYX := Lib.hid hyx
        have HBY := Lib.hid hby
        clear hby hyx
        by_cases ht2 : t = 2
        · subst ht2
          have HA : Hid (askedL text = some (x, y)) := Lib.hid (by unfold askedL; rw [HR.out]; simp only [HBY.out]; rfl)
          go_wp2_with fail
          refine wp_region_lex (fun V => V.cell? ⟨sb, 8, none⟩ = some (.slice (some ⟨bv, 0, none⟩) 1 1) ∧ V.cell? ⟨bv, 0, none⟩ = some (Value.int .i64 E.k) ∧ V.cell? ⟨bv, 1, none⟩ = some (Value.int .i64 E.vk) ∧ V.cell? ⟨bv, 2, none⟩ = some (Value.int .i64 E.vn) ∧ V.cell? ⟨bv, 3, none⟩ = some (sv E.vs) ∧ V.cell? ⟨bv, 4, none⟩ = some (sv E.t) ∧ V.cell? ⟨bv, 5, none⟩ = some (sv E.n) ∧ V.cell? ⟨bv, 6, none⟩ = some (Value.int .i64 E.s) ∧ V.cell? ⟨bv, 7, none⟩ = some (Value.slice E.ao E.m E.c) ∧ V.cell? ⟨b7, 0, none⟩ = some (Value.int .i64 B.k) ∧ V.cell? ⟨b7, 1, none⟩ = some (Value.int .i64 B.vk) ∧ V.cell? ⟨b7, 2, none⟩ = some (Value.int .i64 B.vn) ∧ V.cell? ⟨b7, 3, none⟩ = some (sv B.vs) ∧ V.cell? ⟨b7, 4, none⟩ = some (sv B.t) ∧ V.cell? ⟨b7, 5, none⟩ = some (sv B.n) ∧ V.cell? ⟨b7, 6, none⟩ = some (Value.int .i64 B.s) ∧ V.cell? ⟨b7, 7, none⟩ = some (Value.slice B.ao B.m B.c)) 99 [15, 16] [0, 1, 2, 3, 4, 5, 6, 7, 8, 9, 10, 11, 12, 13, 14, 15, 16, 17] (by kernel_rfl) (by kernel_rfl) (HS.out _ (Chg.refl (fun k => k = w.heap.size ∨ k = w.heap.size + 1) wc).drew) ?_
          iterate 8
            refine' lex_free (v := _) rfl rfl rfl ?_ (fun _ _ _ h => h) ?_
            rotate_left
            · rintro W ⟨h1, h2, h3, h4, h5, h6, h7, h8, h9, h10, h11, h12, h13, h14, h15, h16, h17⟩
              go_simp
              with_reducible rfl
            try simp only [Act.put, List.setIfInBounds_toArray, List.set_cons_zero, List.set_cons_succ]
          iterate 3
            refine' lex_freeG (v := _) rfl rfl rfl ?_ (fun _ _ _ h => h) ?_
            rotate_left
            · rintro W ⟨h1, h2, h3, h4, h5, h6, h7, h8, h9, h10, h11, h12, h13, h14, h15, h16, h17⟩
              go_simp
              with_reducible rfl
            try simp only [Act.put, List.setIfInBounds_toArray, List.set_cons_zero, List.set_cons_succ]
          iterate 2
            refine lex_skip rfl rfl rfl (fun _ _ _ h => h) ?_
            try simp only [Act.put, List.setIfInBounds_toArray, List.set_cons_zero, List.set_cons_succ]
          iterate 1
            refine' lex_freeG (v := _) rfl rfl rfl ?_ (fun _ _ _ h => h) ?_
            rotate_left
            · rintro W ⟨h1, h2, h3, h4, h5, h6, h7, h8, h9, h10, h11, h12, h13, h14, h15, h16, h17⟩
              go_simp
              with_reducible rfl
            try simp only [Act.put, List.setIfInBounds_toArray, List.set_cons_zero, List.set_cons_succ]
          iterate 1
            refine' lex_free (v := _) rfl rfl rfl ?_ (fun _ _ _ h => h) ?_
            rotate_left
            · rintro W ⟨h1, h2, h3, h4, h5, h6, h7, h8, h9, h10, h11, h12, h13, h14, h15, h16, h17⟩
              go_simp
              with_reducible rfl
            try simp only [Act.put, List.setIfInBounds_toArray, List.set_cons_zero, List.set_cons_succ]
          obtain ⟨z0, z1, z2, z3, z4, z5, z6, z7⟩ := ExCells.of A3.out
          obtain ⟨y0, y1, y2, y3, y4, y5, y6, y7⟩ := ExCells.of B3.out
          have fz : ∀ o, wc.frozen? ⟨w.heap.size, o, none⟩ = false := fun o => frozen_of_row wc _ o _ _ A3.out
          have fy : ∀ o, wc.frozen? ⟨w.heap.size + 1, o, none⟩ = false := fun o => frozen_of_row wc _ o _ _ B3.out
          have cA := (chg_set8 (Chg.refl (fun k => k = w.heap.size ∨ k = w.heap.size + 1) wc) (.inl (.inl rfl)) (.int .i64 E.k) (.int .i64 E.vk) (.int .i64 E.vn) (sv E.vs) (sv E.t) (sv E.n) (.int .i64 E.s) (.slice E.ao E.m E.c)).drew
          have SA := Lib.hid (HS.out _ cA)
          obtain ⟨q2, q3, qc⟩ := ex_set2 A3.out B3.out (by omega) E B
          have SB := Lib.hid (HS.out _ qc.drew)
          have Q2 := Lib.hid q2
          have Q3 := Lib.hid q3
          have QC := Lib.hid qc
          clear cA q2 q3 qc
          refine lex_op rfl rfl rfl (fun K hK => ?_)
          go_simp
          refine hK _ _ (fun _ => SA.out) ?_
          clear hK K
          try simp only [Act.put, List.setIfInBounds_toArray, List.set_cons_zero, List.set_cons_succ]
          refine lex_op rfl rfl rfl (fun K hK => ?_)
          go_simp
          refine hK _ _ (fun _ => SB.out) ?_
          clear hK K
          try simp only [Act.put, List.setIfInBounds_toArray, List.set_cons_zero, List.set_cons_succ]
          iterate 1
            refine' lex_free (v := _) rfl rfl rfl ?_ (fun _ _ _ h => h) ?_
            rotate_left
            · rintro W ⟨h1, h2, h3, h4, h5, h6, h7, h8, h9, h10, h11, h12, h13, h14, h15, h16, h17⟩
              go_simp
              with_reducible rfl
            try simp only [Act.put, List.setIfInBounds_toArray, List.set_cons_zero, List.set_cons_succ]
          refine lex_nil ?_
          clear z0 z1 z2 z3 z4 z5 z6 z7 y0 y1 y2 y3 y4 y5 y6 y7 fz fy SA SB
          go_wp2_with fail
          generalize World.setCell _ _ _ = V at Q2 Q3 QC ⊢
          exact ask_ret E B rfl rfl rfl (show V.drew.heap[_]? = _ from Q2.out) (show V.drew.heap[_]? = _ from Q3.out) ⟨X3.out.trans QC.out.drew (fun q e => .inr (by omega)), E, B, by rw [HA.out]; rfl, fun x' y' h => by rw [HA.out] at h; cases h; exact ⟨(ExAt.chg QC.out.drew (fun k hk e => by omega) _ _ HXX.out).mono fun k hk _ => by omega, (ExAt.chg QC.out.drew (fun k hk e => by have := hk.1; omega) _ _ HYX.out).mono fun k hk _ => by have := hk.1; omega⟩⟩
        · have b2 : (t == 2) = false := by simpa using ht2
          by_cases ht0 : t = 0
          · subst ht0
            have HA : Hid (askedL text = some (x, y)) := Lib.hid (by unfold askedL; rw [HR.out]; simp only [HBY.out]; rfl)
            go_wp2_with fail
            refine wp_region_lex (fun V => V.cell? ⟨sb, 8, none⟩ = some (.slice (some ⟨bv, 0, none⟩) 1 1) ∧ V.cell? ⟨bv, 0, none⟩ = some (Value.int .i64 E.k) ∧ V.cell? ⟨bv, 1, none⟩ = some (Value.int .i64 E.vk) ∧ V.cell? ⟨bv, 2, none⟩ = some (Value.int .i64 E.vn) ∧ V.cell? ⟨bv, 3, none⟩ = some (sv E.vs) ∧ V.cell? ⟨bv, 4, none⟩ = some (sv E.t) ∧ V.cell? ⟨bv, 5, none⟩ = some (sv E.n) ∧ V.cell? ⟨bv, 6, none⟩ = some (Value.int .i64 E.s) ∧ V.cell? ⟨bv, 7, none⟩ = some (Value.slice E.ao E.m E.c) ∧ V.cell? ⟨b7, 0, none⟩ = some (Value.int .i64 B.k) ∧ V.cell? ⟨b7, 1, none⟩ = some (Value.int .i64 B.vk) ∧ V.cell? ⟨b7, 2, none⟩ = some (Value.int .i64 B.vn) ∧ V.cell? ⟨b7, 3, none⟩ = some (sv B.vs) ∧ V.cell? ⟨b7, 4, none⟩ = some (sv B.t) ∧ V.cell? ⟨b7, 5, none⟩ = some (sv B.n) ∧ V.cell? ⟨b7, 6, none⟩ = some (Value.int .i64 B.s) ∧ V.cell? ⟨b7, 7, none⟩ = some (Value.slice B.ao B.m B.c)) 99 [15, 16] [0, 1, 2, 3, 4, 5, 6, 7, 8, 9, 10, 11, 12, 13, 14, 15, 16, 17] (by kernel_rfl) (by kernel_rfl) (HS.out _ (Chg.refl (fun k => k = w.heap.size ∨ k = w.heap.size + 1) wc).drew) ?_
            iterate 8
              refine' lex_free (v := _) rfl rfl rfl ?_ (fun _ _ _ h => h) ?_
              rotate_left
              · rintro W ⟨h1, h2, h3, h4, h5, h6, h7, h8, h9, h10, h11, h12, h13, h14, h15, h16, h17⟩
                go_simp
                with_reducible rfl
              try simp only [Act.put, List.setIfInBounds_toArray, List.set_cons_zero, List.set_cons_succ]
            iterate 3
              refine' lex_freeG (v := _) rfl rfl rfl ?_ (fun _ _ _ h => h) ?_
              rotate_left
              · rintro W ⟨h1, h2, h3, h4, h5, h6, h7, h8, h9, h10, h11, h12, h13, h14, h15, h16, h17⟩
                go_simp
                with_reducible rfl
              try simp only [Act.put, List.setIfInBounds_toArray, List.set_cons_zero, List.set_cons_succ]
            iterate 2
              refine' lex_freeG (v := _) rfl rfl rfl ?_ (fun _ _ _ h => h) ?_
              rotate_left
              · rintro W ⟨h1, h2, h3, h4, h5, h6, h7, h8, h9, h10, h11, h12, h13, h14, h15, h16, h17⟩
                go_simp
                with_reducible rfl
              try simp only [Act.put, List.setIfInBounds_toArray, List.set_cons_zero, List.set_cons_succ]
            iterate 1
              refine' lex_freeG (v := _) rfl rfl rfl ?_ (fun _ _ _ h => h) ?_
              rotate_left
              · rintro W ⟨h1, h2, h3, h4, h5, h6, h7, h8, h9, h10, h11, h12, h13, h14, h15, h16, h17⟩
                go_simp
                with_reducible rfl
              try simp only [Act.put, List.setIfInBounds_toArray, List.set_cons_zero, List.set_cons_succ]
            iterate 1
              refine' lex_free (v := _) rfl rfl rfl ?_ (fun _ _ _ h => h) ?_
              rotate_left
              · rintro W ⟨h1, h2, h3, h4, h5, h6, h7, h8, h9, h10, h11, h12, h13, h14, h15, h16, h17⟩
                go_simp
                with_reducible rfl
              try simp only [Act.put, List.setIfInBounds_toArray, List.set_cons_zero, List.set_cons_succ]
            obtain ⟨z0, z1, z2, z3, z4, z5, z6, z7⟩ := ExCells.of A3.out
            obtain ⟨y0, y1, y2, y3, y4, y5, y6, y7⟩ := ExCells.of B3.out
            have fz : ∀ o, wc.frozen? ⟨w.heap.size, o, none⟩ = false := fun o => frozen_of_row wc _ o _ _ A3.out
            have fy : ∀ o, wc.frozen? ⟨w.heap.size + 1, o, none⟩ = false := fun o => frozen_of_row wc _ o _ _ B3.out
            have cA := (chg_set8 (Chg.refl (fun k => k = w.heap.size ∨ k = w.heap.size + 1) wc) (.inl (.inl rfl)) (.int .i64 E.k) (.int .i64 E.vk) (.int .i64 E.vn) (sv E.vs) (sv E.t) (sv E.n) (.int .i64 E.s) (.slice E.ao E.m E.c)).drew
            have SA := Lib.hid (HS.out _ cA)
            obtain ⟨q2, q3, qc⟩ := ex_set2 A3.out B3.out (by omega) E B
            have SB := Lib.hid (HS.out _ qc.drew)
            have Q2 := Lib.hid q2
            have Q3 := Lib.hid q3
            have QC := Lib.hid qc
            clear cA q2 q3 qc
            refine lex_op rfl rfl rfl (fun K hK => ?_)
            go_simp
            refine hK _ _ (fun _ => SA.out) ?_
            clear hK K
            try simp only [Act.put, List.setIfInBounds_toArray, List.set_cons_zero, List.set_cons_succ]
            refine lex_op rfl rfl rfl (fun K hK => ?_)
            go_simp
            refine hK _ _ (fun _ => SB.out) ?_
            clear hK K
            try simp only [Act.put, List.setIfInBounds_toArray, List.set_cons_zero, List.set_cons_succ]
            iterate 1
              refine' lex_free (v := _) rfl rfl rfl ?_ (fun _ _ _ h => h) ?_
              rotate_left
              · rintro W ⟨h1, h2, h3, h4, h5, h6, h7, h8, h9, h10, h11, h12, h13, h14, h15, h16, h17⟩
                go_simp
                with_reducible rfl
              try simp only [Act.put, List.setIfInBounds_toArray, List.set_cons_zero, List.set_cons_succ]
            refine lex_nil ?_
            clear z0 z1 z2 z3 z4 z5 z6 z7 y0 y1 y2 y3 y4 y5 y6 y7 fz fy SA SB
            go_wp2_with fail
            generalize World.setCell _ _ _ = V at Q2 Q3 QC ⊢
            exact ask_ret E B rfl rfl rfl (show V.drew.heap[_]? = _ from Q2.out) (show V.drew.heap[_]? = _ from Q3.out) ⟨X3.out.trans QC.out.drew (fun q e => .inr (by omega)), E, B, by rw [HA.out]; rfl, fun x' y' h => by rw [HA.out] at h; cases h; exact ⟨(ExAt.chg QC.out.drew (fun k hk e => by omega) _ _ HXX.out).mono fun k hk _ => by omega, (ExAt.chg QC.out.drew (fun k hk e => by have := hk.1; omega) _ _ HYX.out).mono fun k hk _ => by have := hk.1; omega⟩⟩
          · have b3 : (t == 0) = false := by simpa using ht0
            have HA : Hid (askedL text = none) := Lib.hid (by unfold askedL; rw [HR.out]; simp only [HBY.out, b2, b3]; rfl)
            clear ht2 ht0
            go_wp2_with fail
            refine wp_region_lex (fun V => V.cell? ⟨sb, 8, none⟩ = some (.slice (some ⟨bv, 0, none⟩) 1 1) ∧ V.cell? ⟨bv, 0, none⟩ = some (Value.int .i64 E.k) ∧ V.cell? ⟨bv, 1, none⟩ = some (Value.int .i64 E.vk) ∧ V.cell? ⟨bv, 2, none⟩ = some (Value.int .i64 E.vn) ∧ V.cell? ⟨bv, 3, none⟩ = some (sv E.vs) ∧ V.cell? ⟨bv, 4, none⟩ = some (sv E.t) ∧ V.cell? ⟨bv, 5, none⟩ = some (sv E.n) ∧ V.cell? ⟨bv, 6, none⟩ = some (Value.int .i64 E.s) ∧ V.cell? ⟨bv, 7, none⟩ = some (Value.slice E.ao E.m E.c) ∧ V.cell? ⟨b7, 0, none⟩ = some (Value.int .i64 B.k) ∧ V.cell? ⟨b7, 1, none⟩ = some (Value.int .i64 B.vk) ∧ V.cell? ⟨b7, 2, none⟩ = some (Value.int .i64 B.vn) ∧ V.cell? ⟨b7, 3, none⟩ = some (sv B.vs) ∧ V.cell? ⟨b7, 4, none⟩ = some (sv B.t) ∧ V.cell? ⟨b7, 5, none⟩ = some (sv B.n) ∧ V.cell? ⟨b7, 6, none⟩ = some (Value.int .i64 B.s) ∧ V.cell? ⟨b7, 7, none⟩ = some (Value.slice B.ao B.m B.c)) 99 [15, 16] [0, 1, 2, 3, 4, 5, 6, 7, 8, 9, 10, 11, 12, 13, 14, 15, 16, 17] (by kernel_rfl) (by kernel_rfl) (HS.out _ (Chg.refl (fun k => k = w.heap.size ∨ k = w.heap.size + 1) wc).drew) ?_
            iterate 8
              refine' lex_free (v := _) rfl rfl rfl ?_ (fun _ _ _ h => h) ?_
              rotate_left
              · rintro W ⟨h1, h2, h3, h4, h5, h6, h7, h8, h9, h10, h11, h12, h13, h14, h15, h16, h17⟩
                go_simp
                with_reducible rfl
              try simp only [Act.put, List.setIfInBounds_toArray, List.set_cons_zero, List.set_cons_succ]
            iterate 3
              refine' lex_freeG (v := _) rfl rfl rfl ?_ (fun _ _ _ h => h) ?_
              rotate_left
              · rintro W ⟨h1, h2, h3, h4, h5, h6, h7, h8, h9, h10, h11, h12, h13, h14, h15, h16, h17⟩
                go_simp
                with_reducible rfl
              try simp only [Act.put, List.setIfInBounds_toArray, List.set_cons_zero, List.set_cons_succ]
            iterate 2
              refine' lex_freeG (v := _) rfl rfl rfl ?_ (fun _ _ _ h => h) ?_
              rotate_left
              · rintro W ⟨h1, h2, h3, h4, h5, h6, h7, h8, h9, h10, h11, h12, h13, h14, h15, h16, h17⟩
                go_simp
                with_reducible rfl
              try simp only [Act.put, List.setIfInBounds_toArray, List.set_cons_zero, List.set_cons_succ]
            iterate 1
              refine' lex_freeG (v := _) rfl rfl rfl ?_ (fun _ _ _ h => h) ?_
              rotate_left
              · rintro W ⟨h1, h2, h3, h4, h5, h6, h7, h8, h9, h10, h11, h12, h13, h14, h15, h16, h17⟩
                go_simp
                with_reducible rfl
              try simp only [Act.put, List.setIfInBounds_toArray, List.set_cons_zero, List.set_cons_succ]
            iterate 1
              refine' lex_free (v := _) rfl rfl rfl ?_ (fun _ _ _ h => h) ?_
              rotate_left
              · rintro W ⟨h1, h2, h3, h4, h5, h6, h7, h8, h9, h10, h11, h12, h13, h14, h15, h16, h17⟩
                go_simp
                with_reducible rfl
              try simp only [Act.put, List.setIfInBounds_toArray, List.set_cons_zero, List.set_cons_succ]
            obtain ⟨z0, z1, z2, z3, z4, z5, z6, z7⟩ := ExCells.of A3.out
            obtain ⟨y0, y1, y2, y3, y4, y5, y6, y7⟩ := ExCells.of B3.out
            have fz : ∀ o, wc.frozen? ⟨w.heap.size, o, none⟩ = false := fun o => frozen_of_row wc _ o _ _ A3.out
            have fy : ∀ o, wc.frozen? ⟨w.heap.size + 1, o, none⟩ = false := fun o => frozen_of_row wc _ o _ _ B3.out
            have cA := (chg_set8 (Chg.refl (fun k => k = w.heap.size ∨ k = w.heap.size + 1) wc) (.inl (.inl rfl)) (.int .i64 E.k) (.int .i64 E.vk) (.int .i64 E.vn) (sv E.vs) (sv E.t) (sv E.n) (.int .i64 E.s) (.slice E.ao E.m E.c)).drew
            have SA := Lib.hid (HS.out _ cA)
            obtain ⟨q2, q3, qc⟩ := ex_set2 A3.out B3.out (by omega) E B
            have SB := Lib.hid (HS.out _ qc.drew)
            have Q2 := Lib.hid q2
            have Q3 := Lib.hid q3
            have QC := Lib.hid qc
            clear cA q2 q3 qc
            refine lex_op rfl rfl rfl (fun K hK => ?_)
            go_simp
            refine hK _ _ (fun _ => SA.out) ?_
            clear hK K
            try simp only [Act.put, List.setIfInBounds_toArray, List.set_cons_zero, List.set_cons_succ]
            refine lex_op rfl rfl rfl (fun K hK => ?_)
            go_simp
            refine hK _ _ (fun _ => SB.out) ?_
            clear hK K
            try simp only [Act.put, List.setIfInBounds_toArray, List.set_cons_zero, List.set_cons_succ]
            iterate 1
              refine' lex_free (v := _) rfl rfl rfl ?_ (fun _ _ _ h => h) ?_
              rotate_left
              · rintro W ⟨h1, h2, h3, h4, h5, h6, h7, h8, h9, h10, h11, h12, h13, h14, h15, h16, h17⟩
                go_simp
                with_reducible rfl
              try simp only [Act.put, List.setIfInBounds_toArray, List.set_cons_zero, List.set_cons_succ]
            refine lex_nil ?_
            clear z0 z1 z2 z3 z4 z5 z6 z7 y0 y1 y2 y3 y4 y5 y6 y7 fz fy SA SB
            go_wp2_with fail
            generalize World.setCell _ _ _ = V at Q2 Q3 QC ⊢
            exact ask_ret E B rfl rfl rfl (show V.drew.heap[_]? = _ from Q2.out) (show V.drew.heap[_]? = _ from Q3.out) ⟨X3.out.trans QC.out.drew (fun q e => .inr (by omega)), E, B, by rw [HA.out]; rfl, fun x' y' h => by rw [HA.out] at h; cases h⟩
end Go.Proofs.YtnbckfkdmkbopaaGreatDoor
