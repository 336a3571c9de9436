/-
  CoreReads: the whole walk. Conditions: the library's variables stand, the text is as long as a string may be, the rows' numbers are 64-bit.
-/
import Derived.Test.YtnbckfkdmkbopaaGreatDoorTG39
import Derived.Test.YtnbckfkdmkbopaaGreatDoorTG45
import Derived.Test.YtnbckfkdmkbopaaGreatDoorTG43
set_option autoImplicit false
namespace Go.Proofs.YtnbckfkdmkbopaaGreatDoor
open Go Go.RowKit

/-- what stands behind the choice -/
structure RMid (L : World) (q : Option (Nat × Int × Val)) (rd : RdF) (b10 : Nat) (V : World) : Prop where
  h10 : V.heap[b10]? = some rd.obj
  ok : rd.ok q
  c : Chg NoB L V
/-- what a round of the loop leaves -/
structure RInv (L : World) (rd : RdF) (rows : List (List Val)) (j : Nat) (v : Value) (wr : World) : Prop where
  c : Chg NoB L wr
  ok : ∀ r ∈ rows.take j, rowOk cols4 r
  out : Rws wr (fun g => g < L.heap.size) L.heap.size v ((rows.take j).filter (covB rd))
set_option maxRecDepth 100000 in
set_option maxHeartbeats 4000000 in
theorem creads_any (text : Str) (rows : List (List Val)) (l : List IdxR) (F H : Nat → Prop) (ao ao2 : Option Addr) (cap cap2 : Nat) (w : World) (hg : Glob w) (h10 : 10 ≤ w.heap.size) (ht : text.length ≤ 140737488355328)
    (hR : RowsAt w F (.slice ao rows.length cap) rows) (hr1 : ∀ r ∈ rows, r.length ≤ 100000000000000) (hn : ∀ r ∈ rows, ∀ v ∈ r, v.num ≤ 9223372036854775807) (hrl : rows.length ≤ 100000000000000)
    (hl : l.length ≤ 100000000000000) (hI : IdxsAt w H (.slice ao2 l.length cap2) l) :
    Calls Tryz.prog 3 #[sv text, .slice ao rows.length cap, .slice ao2 l.length cap2] w fun e w' => e = .returned (.bool true) ∧ Chg NoB w w' := by
  have HR1 := Lib.hid (reads_any w hg h10)
  have HA : Hid (∀ W, Chg NoB w W → Calls Tryz.prog 6 #[sv text] W (AskOut text W)) := Lib.hid fun W c => asked_any text W (hg.quiet c) (Nat.le_trans h10 c.size) ht
  have R0 := Lib.hid (hR.mono (G := fun g => g < w.heap.size) (fun k _ hl => hl))
  have I0 := Lib.hid hI
  have HL1 := Lib.hid hr1
  have HN := Lib.hid hn
  have HLL := Lib.hid hl
  clear hg hR hI hr1 hn hl
  go_enter Tryz.func3, Tryz.ntmps3
  go_wp2_with fail
  refine HR1.out.mono ?_
  rintro e w1 ⟨rfl, c1⟩
  have X1 := Lib.hid c1
  clear c1 HR1
  go_wp2_with fail
  refine (HA.out w1 X1.out).mono ?_
  rintro e w2 ⟨c2, A, B, rfl, hx⟩
  have X2 := Lib.hid (X1.out.trans c2 (fun k h => h.elim))
  have HX := Lib.hid hx
  clear c2 hx HA
  obtain ⟨o, ho⟩ : ∃ o, askedL text = o := ⟨_, rfl⟩
  rcases o with _ | ⟨x, y⟩
  · rw [ho]
    have X3 : Hid (∀ o o', Chg NoB w ((w2.alloc o).alloc o')) := Lib.hid fun o o' => (X2.out.alloc _).alloc _
    clear X1
    go_wp2_with fail
    go_ret
    exact ⟨rfl, X3.out _ _⟩
  by_cases hlen : rows.length ≤ 1000
  · rw [ho]
    have bl : ((rows.length : Int) > 1000) = False := by simp; omega
    obtain ⟨_, hyB⟩ := HX.out x y ho
    have HYB := Lib.hid hyB
    obtain ⟨t, ty1, ty2⟩ := asked_ty ho
    have TY := Lib.hid (And.intro ty1 ty2)
    clear hyB HX ty1 ty2 ho X1
    go_upto_region 6 with (fail)
    generalize hW : (w2.alloc _).alloc _ = W0
    have c0 : Chg NoB w2 W0 := hW ▸ ((Chg.refl NoB w2).alloc _).alloc _
    have B8 : Hid (W0.heap[w2.heap.size + 1]? = some B.obj) := Lib.hid (hW ▸ hal_new' (by simp))
    have X3 := Lib.hid (X2.out.trans c0 (fun k h => h.elim))
    have HY := Lib.hid (ExAt.quiet c0 HYB.out)
    clear c0 hW X2 HYB
    go_cut [10, 11] (fun s10 s11 wx => ∃ (b10 : Nat) (rd : RdF) (n : Int), s10 = .pointer (some ⟨b10, 0, none⟩) ∧ s11 = .int .i64 n ∧ Hid (RMid W0 (questL cols4 y) rd b10 wx))
    case first =>
      -- READS6
      have HS : Hid (∀ V, Chg NoB W0.drew V → V.cell? ⟨w2.heap.size + 1, 0, none⟩ = some (Value.int .i64 B.k) ∧ V.cell? ⟨w2.heap.size + 1, 1, none⟩ = some (Value.int .i64 B.vk) ∧ V.cell? ⟨w2.heap.size + 1, 2, none⟩ = some (Value.int .i64 B.vn) ∧ V.cell? ⟨w2.heap.size + 1, 3, none⟩ = some (sv B.vs) ∧ V.cell? ⟨w2.heap.size + 1, 4, none⟩ = some (sv B.t) ∧ V.cell? ⟨w2.heap.size + 1, 5, none⟩ = some (sv B.n) ∧ V.cell? ⟨w2.heap.size + 1, 6, none⟩ = some (Value.int .i64 B.s) ∧ V.cell? ⟨w2.heap.size + 1, 7, none⟩ = some (Value.slice B.ao B.m B.c)) := Lib.hid fun V c => ExCells.of (c.heap (show W0.drew.heap[_]? = _ from B8.out) (fun h => h))
      have HX0 : Hid (ExAt W0.drew (fun k => w1.heap.size ≤ k) y B) := Lib.hid (ExAt.quiet (Chg.refl NoB W0).drew HY.out)
      have HI0 : Hid (IdxsAt W0.drew H (.slice ao2 l.length cap2) l) := Lib.hid (RowAt.quiet I0.out (X3.out.drew))
      have HM : Hid (∀ (V : World) (b10 : Nat) (rd : RdF), W0.drew.heap.size ≤ b10 → V.heap[b10]? = some rd.obj → rd.ok (questL cols4 y) → Chg NoB W0.drew V → RMid W0 (questL cols4 y) rd b10 V) := Lib.hid fun V b10 rd g p ok c => ⟨p, ok, Chg.trans (Chg.refl NoB W0).drew c (fun _ h => .inl h)⟩
      refine wp_region_lexF (fun V => V.cell? ⟨w2.heap.size + 1, 0, none⟩ = some (Value.int .i64 B.k) ∧ V.cell? ⟨w2.heap.size + 1, 1, none⟩ = some (Value.int .i64 B.vk) ∧ V.cell? ⟨w2.heap.size + 1, 2, none⟩ = some (Value.int .i64 B.vn) ∧ V.cell? ⟨w2.heap.size + 1, 3, none⟩ = some (sv B.vs) ∧ V.cell? ⟨w2.heap.size + 1, 4, none⟩ = some (sv B.t) ∧ V.cell? ⟨w2.heap.size + 1, 5, none⟩ = some (sv B.n) ∧ V.cell? ⟨w2.heap.size + 1, 6, none⟩ = some (Value.int .i64 B.s) ∧ V.cell? ⟨w2.heap.size + 1, 7, none⟩ = some (Value.slice B.ao B.m B.c)) 99 (.free 0 (.free 3 (.tri 1 2 8 (.fork 2 8 (.fork 4 8 (.free 5 (.free 6 (.free 7 (.one 8 (.one 9 (.free 10 .done)))))) (.one 4 (.free 5 (.free 6 (.free 7 (.one 9 (.free 10 .done))))))) (.one 2 (.one 4 (.free 5 (.free 6 (.free 7 (.one 9 (.free 10 .done)))))))) (.fork 1 8 (.fork 4 8 (.free 5 (.free 6 (.free 7 (.one 8 (.one 9 (.free 10 .done)))))) (.one 4 (.free 5 (.free 6 (.free 7 (.one 9 (.free 10 .done))))))) (.one 1 (.one 4 (.free 5 (.free 6 (.free 7 (.one 9 (.free 10 .done)))))))) (.fork 1 2 (.one 2 (.one 4 (.free 5 (.free 6 (.free 7 (.one 9 (.free 10 .done))))))) (.one 1 (.one 4 (.free 5 (.free 6 (.free 7 (.one 9 (.free 10 .done))))))))))) (by kernel_rfl) (by kernel_rfl) (HS.out _ (Chg.refl _ _)) ?_
      have C : Hid (Chg NoB W0.drew W0.drew) := Lib.hid (Chg.refl _ _)
      generalize W0.drew = V0 at HS HX0 HI0 HM C ⊢
      obtain ⟨z0, hz0⟩ : ∃ z, z = V0.heap.size := ⟨_, rfl⟩
      have HZ := Lib.hid hz0
      clear hz0
      iterate 2
        refine' lexF_free (v := _) rfl rfl ?_ (fun _ _ _ h => h) ?_
        rotate_left
        · rintro W ⟨h1, h2, h3, h4, h5, h6, h7, h8⟩
          go_simp
          with_reducible rfl
        try simp only [Act.put, List.setIfInBounds_toArray, List.set_cons_zero, List.set_cons_succ]
      refine lexF_tri rfl rfl rfl rfl rfl rfl ?_ ?_ ?_
      · intro K hK
        go_simp
        have c := (Chg.refl NoB V0).alloc B.obj
        have P1 : Hid ((V0.alloc B.obj).heap[V0.heap.size]? = some B.obj) := Lib.hid hal_new
        replace C := Lib.hid (C.out.trans c (fun _ h => h.elim))
        clear c
        refine hK _ _ (fun _ => HS.out _ C.out) ?_
        clear hK K
        try simp only [Act.put, List.setIfInBounds_toArray, List.set_cons_zero, List.set_cons_succ]
        generalize hWW : V0.alloc _ = V1
        rw [show V0.alloc B.obj = V1 from hWW] at P1 C
        generalize hbb : V0.heap.size = b1 at P1 ⊢
        clear hWW hbb
        refine lexF_fork rfl rfl rfl rfl ?_ ?_
        · intro K hK
          go_simp
          refine (things_any _).mono ?_
          intro e V2 ho
          obtain ⟨tb, rfl, hlo, hp, c⟩ := ho
          have P2 := Lib.hid hp
          replace P1 := Lib.hid (c.heap P1.out (fun h => h))
          replace C := Lib.hid (C.out.trans c (fun _ h => h.elim))
          clear c hp hlo
          refine hK _ _ (fun _ => HS.out _ C.out) ?_
          clear hK K
          try simp only [Act.put, List.setIfInBounds_toArray, List.set_cons_zero, List.set_cons_succ]
          refine lexF_fork rfl rfl rfl rfl ?_ ?_
          · intro K hK
            go_simp
            refine (choose_any cols4 rfl y t TY.out.1 B b1 1 tb 4 _ (fun _ => True) H l HLL.out ao2 cap2 _ (lt_of_heap P1.out) (range_block P1.out) (ExAt.quiet C.out HX0.out) (tabT_of P2.out trivial) (RowAt.quiet HI0.out C.out)).mono ?_
            intro e V3 ho
            obtain ⟨c, rd, n, rfl, hok⟩ := ho
            have HOK := Lib.hid hok
            replace P1 := Lib.hid (c.heap P1.out (fun h => h))
            replace P2 := Lib.hid (c.heap P2.out (fun h => h))
            replace C := Lib.hid (C.out.trans c (fun _ h => h.elim))
            clear c hok
            refine hK _ _ (fun _ => HS.out _ C.out) ?_
            clear hK K
            try simp only [Act.put, List.setIfInBounds_toArray, List.set_cons_zero, List.set_cons_succ]
            iterate 3
              refine' lexF_free (v := _) rfl rfl ?_ (fun _ _ _ h => h) ?_
              rotate_left
              · rintro W ⟨h1, h2, h3, h4, h5, h6, h7, h8⟩
                go_simp
                with_reducible rfl
              try simp only [Act.put, List.setIfInBounds_toArray, List.set_cons_zero, List.set_cons_succ]
            refine lexF_one rfl rfl ?_
            intro K hK
            go_simp
            have c := (Chg.refl NoB V3).alloc rd0
            have P8 : Hid ((V3.alloc rd0).heap[V3.heap.size]? = some rd0) := Lib.hid hal_new
            have G8 : Hid (z0 ≤ V3.heap.size) := Lib.hid (by have := C.out.size; have := HZ.out; omega)
            replace P1 := Lib.hid (c.heap P1.out (fun h => h))
            replace P2 := Lib.hid (c.heap P2.out (fun h => h))
            replace C := Lib.hid (C.out.trans c (fun _ h => h.elim))
            clear c
            refine hK _ _ (fun _ => HS.out _ C.out) ?_
            clear hK K
            try simp only [Act.put, List.setIfInBounds_toArray, List.set_cons_zero, List.set_cons_succ]
            generalize hWW : V3.alloc _ = V4
            rw [show V3.alloc rd0 = V4 from hWW] at P8 C P1 P2
            generalize hbb : V3.heap.size = b8 at P8 G8 ⊢
            clear hWW hbb
            obtain ⟨d0, d1, d2, d3, d4, d5, d6, d7⟩ := rd0_cells P8.out
            have fd : ∀ o, V4.frozen? ⟨b8, o, none⟩ = false := fun o => frozen_of_row V4 _ o _ _ P8.out
            refine lexF_one rfl rfl ?_
            intro K hK
            go_simp
            have c3 := chg_set8 (Chg.refl (OneP b8) V4) (.inl rfl) (sv [116]) (.int .i64 rd.col) (.int .i64 rd.lo.kind) (.int .i64 rd.lo.num) (sv rd.lo.str) (.int .i64 rd.hi.kind) (.int .i64 rd.hi.num) (sv rd.hi.str)
            replace C := Lib.hid (C.out.trans c3 (fun q e => .inr (by unfold OneP at e; have := G8.out; have := HZ.out; omega)))
            replace P8 := Lib.hid (rd_set P8.out rd)
            clear c3
            refine hK _ _ (fun _ => HS.out _ C.out) ?_
            clear hK K
            try simp only [Act.put, List.setIfInBounds_toArray, List.set_cons_zero, List.set_cons_succ]
            iterate 1
              refine' lexF_free (v := _) rfl rfl ?_ (fun _ _ _ h => h) ?_
              rotate_left
              · rintro W ⟨h1, h2, h3, h4, h5, h6, h7, h8⟩
                go_simp
                with_reducible rfl
              try simp only [Act.put, List.setIfInBounds_toArray, List.set_cons_zero, List.set_cons_succ]
            refine lexF_done ?_
            clear d0 d1 d2 d3 d4 d5 d6 d7 fd
            go_wp2_with fail
            go_meet
            exact ⟨b8, rd, n, rfl, rfl, Lib.hid (HM.out _ b8 rd (by have := G8.out; have := HZ.out; omega) P8.out HOK.out C.out)⟩
          · intro K hK
            go_simp
            have c := (Chg.refl NoB V2).alloc rd0
            have P8 : Hid ((V2.alloc rd0).heap[V2.heap.size]? = some rd0) := Lib.hid hal_new
            have G8 : Hid (z0 ≤ V2.heap.size) := Lib.hid (by have := C.out.size; have := HZ.out; omega)
            replace P1 := Lib.hid (c.heap P1.out (fun h => h))
            replace P2 := Lib.hid (c.heap P2.out (fun h => h))
            replace C := Lib.hid (C.out.trans c (fun _ h => h.elim))
            clear c
            refine hK _ _ (fun _ => HS.out _ C.out) ?_
            clear hK K
            try simp only [Act.put, List.setIfInBounds_toArray, List.set_cons_zero, List.set_cons_succ]
            generalize hWW : V2.alloc _ = V5
            rw [show V2.alloc rd0 = V5 from hWW] at P8 C P1 P2
            generalize hbb : V2.heap.size = b8 at P8 G8 ⊢
            clear hWW hbb
            refine lexF_one rfl rfl ?_
            intro K hK
            go_simp
            refine (choose_any cols4 rfl y t TY.out.1 B b1 1 tb 4 _ (fun _ => True) H l HLL.out ao2 cap2 _ (lt_of_heap P1.out) (range_block P1.out) (ExAt.quiet C.out HX0.out) (tabT_of P2.out trivial) (RowAt.quiet HI0.out C.out)).mono ?_
            intro e V6 ho
            obtain ⟨c, rd, n, rfl, hok⟩ := ho
            have HOK := Lib.hid hok
            replace P1 := Lib.hid (c.heap P1.out (fun h => h))
            replace P2 := Lib.hid (c.heap P2.out (fun h => h))
            replace P8 := Lib.hid (c.heap P8.out (fun h => h))
            replace C := Lib.hid (C.out.trans c (fun _ h => h.elim))
            clear c hok
            refine hK _ _ (fun _ => HS.out _ C.out) ?_
            clear hK K
            try simp only [Act.put, List.setIfInBounds_toArray, List.set_cons_zero, List.set_cons_succ]
            iterate 3
              refine' lexF_free (v := _) rfl rfl ?_ (fun _ _ _ h => h) ?_
              rotate_left
              · rintro W ⟨h1, h2, h3, h4, h5, h6, h7, h8⟩
                go_simp
                with_reducible rfl
              try simp only [Act.put, List.setIfInBounds_toArray, List.set_cons_zero, List.set_cons_succ]
            obtain ⟨d0, d1, d2, d3, d4, d5, d6, d7⟩ := rd0_cells P8.out
            have fd : ∀ o, V6.frozen? ⟨b8, o, none⟩ = false := fun o => frozen_of_row V6 _ o _ _ P8.out
            refine lexF_one rfl rfl ?_
            intro K hK
            go_simp
            have c3 := chg_set8 (Chg.refl (OneP b8) V6) (.inl rfl) (sv [116]) (.int .i64 rd.col) (.int .i64 rd.lo.kind) (.int .i64 rd.lo.num) (sv rd.lo.str) (.int .i64 rd.hi.kind) (.int .i64 rd.hi.num) (sv rd.hi.str)
            replace C := Lib.hid (C.out.trans c3 (fun q e => .inr (by unfold OneP at e; have := G8.out; have := HZ.out; omega)))
            replace P8 := Lib.hid (rd_set P8.out rd)
            clear c3
            refine hK _ _ (fun _ => HS.out _ C.out) ?_
            clear hK K
            try simp only [Act.put, List.setIfInBounds_toArray, List.set_cons_zero, List.set_cons_succ]
            iterate 1
              refine' lexF_free (v := _) rfl rfl ?_ (fun _ _ _ h => h) ?_
              rotate_left
              · rintro W ⟨h1, h2, h3, h4, h5, h6, h7, h8⟩
                go_simp
                with_reducible rfl
              try simp only [Act.put, List.setIfInBounds_toArray, List.set_cons_zero, List.set_cons_succ]
            refine lexF_done ?_
            clear d0 d1 d2 d3 d4 d5 d6 d7 fd
            go_wp2_with fail
            go_meet
            exact ⟨b8, rd, n, rfl, rfl, Lib.hid (HM.out _ b8 rd (by have := G8.out; have := HZ.out; omega) P8.out HOK.out C.out)⟩
        · intro K hK
          go_simp
          have c := (Chg.refl NoB V1).alloc rd0
          have P8 : Hid ((V1.alloc rd0).heap[V1.heap.size]? = some rd0) := Lib.hid hal_new
          have G8 : Hid (z0 ≤ V1.heap.size) := Lib.hid (by have := C.out.size; have := HZ.out; omega)
          replace P1 := Lib.hid (c.heap P1.out (fun h => h))
          replace C := Lib.hid (C.out.trans c (fun _ h => h.elim))
          clear c
          refine hK _ _ (fun _ => HS.out _ C.out) ?_
          clear hK K
          try simp only [Act.put, List.setIfInBounds_toArray, List.set_cons_zero, List.set_cons_succ]
          generalize hWW : V1.alloc _ = V7
          rw [show V1.alloc rd0 = V7 from hWW] at P8 C P1
          generalize hbb : V1.heap.size = b8 at P8 G8 ⊢
          clear hWW hbb
          refine lexF_one rfl rfl ?_
          intro K hK
          go_simp
          refine (things_any _).mono ?_
          intro e V8 ho
          obtain ⟨tb, rfl, hlo, hp, c⟩ := ho
          have P2 := Lib.hid hp
          replace P1 := Lib.hid (c.heap P1.out (fun h => h))
          replace P8 := Lib.hid (c.heap P8.out (fun h => h))
          replace C := Lib.hid (C.out.trans c (fun _ h => h.elim))
          clear c hp hlo
          refine hK _ _ (fun _ => HS.out _ C.out) ?_
          clear hK K
          try simp only [Act.put, List.setIfInBounds_toArray, List.set_cons_zero, List.set_cons_succ]
          refine lexF_one rfl rfl ?_
          intro K hK
          go_simp
          refine (choose_any cols4 rfl y t TY.out.1 B b1 1 tb 4 _ (fun _ => True) H l HLL.out ao2 cap2 _ (lt_of_heap P1.out) (range_block P1.out) (ExAt.quiet C.out HX0.out) (tabT_of P2.out trivial) (RowAt.quiet HI0.out C.out)).mono ?_
          intro e V9 ho
          obtain ⟨c, rd, n, rfl, hok⟩ := ho
          have HOK := Lib.hid hok
          replace P1 := Lib.hid (c.heap P1.out (fun h => h))
          replace P2 := Lib.hid (c.heap P2.out (fun h => h))
          replace P8 := Lib.hid (c.heap P8.out (fun h => h))
          replace C := Lib.hid (C.out.trans c (fun _ h => h.elim))
          clear c hok
          refine hK _ _ (fun _ => HS.out _ C.out) ?_
          clear hK K
          try simp only [Act.put, List.setIfInBounds_toArray, List.set_cons_zero, List.set_cons_succ]
          iterate 3
            refine' lexF_free (v := _) rfl rfl ?_ (fun _ _ _ h => h) ?_
            rotate_left
            · rintro W ⟨h1, h2, h3, h4, h5, h6, h7, h8⟩
              go_simp
              with_reducible rfl
            try simp only [Act.put, List.setIfInBounds_toArray, List.set_cons_zero, List.set_cons_succ]
          obtain ⟨d0, d1, d2, d3, d4, d5, d6, d7⟩ := rd0_cells P8.out
          have fd : ∀ o, V9.frozen? ⟨b8, o, none⟩ = false := fun o => frozen_of_row V9 _ o _ _ P8.out
          refine lexF_one rfl rfl ?_
          intro K hK
          go_simp
          have c3 := chg_set8 (Chg.refl (OneP b8) V9) (.inl rfl) (sv [116]) (.int .i64 rd.col) (.int .i64 rd.lo.kind) (.int .i64 rd.lo.num) (sv rd.lo.str) (.int .i64 rd.hi.kind) (.int .i64 rd.hi.num) (sv rd.hi.str)
          replace C := Lib.hid (C.out.trans c3 (fun q e => .inr (by unfold OneP at e; have := G8.out; have := HZ.out; omega)))
          replace P8 := Lib.hid (rd_set P8.out rd)
          clear c3
          refine hK _ _ (fun _ => HS.out _ C.out) ?_
          clear hK K
          try simp only [Act.put, List.setIfInBounds_toArray, List.set_cons_zero, List.set_cons_succ]
          iterate 1
            refine' lexF_free (v := _) rfl rfl ?_ (fun _ _ _ h => h) ?_
            rotate_left
            · rintro W ⟨h1, h2, h3, h4, h5, h6, h7, h8⟩
              go_simp
              with_reducible rfl
            try simp only [Act.put, List.setIfInBounds_toArray, List.set_cons_zero, List.set_cons_succ]
          refine lexF_done ?_
          clear d0 d1 d2 d3 d4 d5 d6 d7 fd
          go_wp2_with fail
          go_meet
          exact ⟨b8, rd, n, rfl, rfl, Lib.hid (HM.out _ b8 rd (by have := G8.out; have := HZ.out; omega) P8.out HOK.out C.out)⟩
      · intro K hK
        go_simp
        refine (things_any _).mono ?_
        intro e V10 ho
        obtain ⟨tb, rfl, hlo, hp, c⟩ := ho
        have P2 := Lib.hid hp
        replace C := Lib.hid (C.out.trans c (fun _ h => h.elim))
        clear c hp hlo
        refine hK _ _ (fun _ => HS.out _ C.out) ?_
        clear hK K
        try simp only [Act.put, List.setIfInBounds_toArray, List.set_cons_zero, List.set_cons_succ]
        refine lexF_fork rfl rfl rfl rfl ?_ ?_
        · intro K hK
          go_simp
          have c := (Chg.refl NoB V10).alloc B.obj
          have P1 : Hid ((V10.alloc B.obj).heap[V10.heap.size]? = some B.obj) := Lib.hid hal_new
          replace P2 := Lib.hid (c.heap P2.out (fun h => h))
          replace C := Lib.hid (C.out.trans c (fun _ h => h.elim))
          clear c
          refine hK _ _ (fun _ => HS.out _ C.out) ?_
          clear hK K
          try simp only [Act.put, List.setIfInBounds_toArray, List.set_cons_zero, List.set_cons_succ]
          generalize hWW : V10.alloc _ = V11
          rw [show V10.alloc B.obj = V11 from hWW] at P1 C P2
          generalize hbb : V10.heap.size = b1 at P1 ⊢
          clear hWW hbb
          refine lexF_fork rfl rfl rfl rfl ?_ ?_
          · intro K hK
            go_simp
            refine (choose_any cols4 rfl y t TY.out.1 B b1 1 tb 4 _ (fun _ => True) H l HLL.out ao2 cap2 _ (lt_of_heap P1.out) (range_block P1.out) (ExAt.quiet C.out HX0.out) (tabT_of P2.out trivial) (RowAt.quiet HI0.out C.out)).mono ?_
            intro e V12 ho
            obtain ⟨c, rd, n, rfl, hok⟩ := ho
            have HOK := Lib.hid hok
            replace P1 := Lib.hid (c.heap P1.out (fun h => h))
            replace P2 := Lib.hid (c.heap P2.out (fun h => h))
            replace C := Lib.hid (C.out.trans c (fun _ h => h.elim))
            clear c hok
            refine hK _ _ (fun _ => HS.out _ C.out) ?_
            clear hK K
            try simp only [Act.put, List.setIfInBounds_toArray, List.set_cons_zero, List.set_cons_succ]
            iterate 3
              refine' lexF_free (v := _) rfl rfl ?_ (fun _ _ _ h => h) ?_
              rotate_left
              · rintro W ⟨h1, h2, h3, h4, h5, h6, h7, h8⟩
                go_simp
                with_reducible rfl
              try simp only [Act.put, List.setIfInBounds_toArray, List.set_cons_zero, List.set_cons_succ]
            refine lexF_one rfl rfl ?_
            intro K hK
            go_simp
            have c := (Chg.refl NoB V12).alloc rd0
            have P8 : Hid ((V12.alloc rd0).heap[V12.heap.size]? = some rd0) := Lib.hid hal_new
            have G8 : Hid (z0 ≤ V12.heap.size) := Lib.hid (by have := C.out.size; have := HZ.out; omega)
            replace P1 := Lib.hid (c.heap P1.out (fun h => h))
            replace P2 := Lib.hid (c.heap P2.out (fun h => h))
            replace C := Lib.hid (C.out.trans c (fun _ h => h.elim))
            clear c
            refine hK _ _ (fun _ => HS.out _ C.out) ?_
            clear hK K
            try simp only [Act.put, List.setIfInBounds_toArray, List.set_cons_zero, List.set_cons_succ]
            generalize hWW : V12.alloc _ = V13
            rw [show V12.alloc rd0 = V13 from hWW] at P8 C P1 P2
            generalize hbb : V12.heap.size = b8 at P8 G8 ⊢
            clear hWW hbb
            obtain ⟨d0, d1, d2, d3, d4, d5, d6, d7⟩ := rd0_cells P8.out
            have fd : ∀ o, V13.frozen? ⟨b8, o, none⟩ = false := fun o => frozen_of_row V13 _ o _ _ P8.out
            refine lexF_one rfl rfl ?_
            intro K hK
            go_simp
            have c3 := chg_set8 (Chg.refl (OneP b8) V13) (.inl rfl) (sv [116]) (.int .i64 rd.col) (.int .i64 rd.lo.kind) (.int .i64 rd.lo.num) (sv rd.lo.str) (.int .i64 rd.hi.kind) (.int .i64 rd.hi.num) (sv rd.hi.str)
            replace C := Lib.hid (C.out.trans c3 (fun q e => .inr (by unfold OneP at e; have := G8.out; have := HZ.out; omega)))
            replace P8 := Lib.hid (rd_set P8.out rd)
            clear c3
            refine hK _ _ (fun _ => HS.out _ C.out) ?_
            clear hK K
            try simp only [Act.put, List.setIfInBounds_toArray, List.set_cons_zero, List.set_cons_succ]
            iterate 1
              refine' lexF_free (v := _) rfl rfl ?_ (fun _ _ _ h => h) ?_
              rotate_left
              · rintro W ⟨h1, h2, h3, h4, h5, h6, h7, h8⟩
                go_simp
                with_reducible rfl
              try simp only [Act.put, List.setIfInBounds_toArray, List.set_cons_zero, List.set_cons_succ]
            refine lexF_done ?_
            clear d0 d1 d2 d3 d4 d5 d6 d7 fd
            go_wp2_with fail
            go_meet
            exact ⟨b8, rd, n, rfl, rfl, Lib.hid (HM.out _ b8 rd (by have := G8.out; have := HZ.out; omega) P8.out HOK.out C.out)⟩
          · intro K hK
            go_simp
            have c := (Chg.refl NoB V11).alloc rd0
            have P8 : Hid ((V11.alloc rd0).heap[V11.heap.size]? = some rd0) := Lib.hid hal_new
            have G8 : Hid (z0 ≤ V11.heap.size) := Lib.hid (by have := C.out.size; have := HZ.out; omega)
            replace P1 := Lib.hid (c.heap P1.out (fun h => h))
            replace P2 := Lib.hid (c.heap P2.out (fun h => h))
            replace C := Lib.hid (C.out.trans c (fun _ h => h.elim))
            clear c
            refine hK _ _ (fun _ => HS.out _ C.out) ?_
            clear hK K
            try simp only [Act.put, List.setIfInBounds_toArray, List.set_cons_zero, List.set_cons_succ]
            generalize hWW : V11.alloc _ = V14
            rw [show V11.alloc rd0 = V14 from hWW] at P8 C P1 P2
            generalize hbb : V11.heap.size = b8 at P8 G8 ⊢
            clear hWW hbb
            refine lexF_one rfl rfl ?_
            intro K hK
            go_simp
            refine (choose_any cols4 rfl y t TY.out.1 B b1 1 tb 4 _ (fun _ => True) H l HLL.out ao2 cap2 _ (lt_of_heap P1.out) (range_block P1.out) (ExAt.quiet C.out HX0.out) (tabT_of P2.out trivial) (RowAt.quiet HI0.out C.out)).mono ?_
            intro e V15 ho
            obtain ⟨c, rd, n, rfl, hok⟩ := ho
            have HOK := Lib.hid hok
            replace P1 := Lib.hid (c.heap P1.out (fun h => h))
            replace P2 := Lib.hid (c.heap P2.out (fun h => h))
            replace P8 := Lib.hid (c.heap P8.out (fun h => h))
            replace C := Lib.hid (C.out.trans c (fun _ h => h.elim))
            clear c hok
            refine hK _ _ (fun _ => HS.out _ C.out) ?_
            clear hK K
            try simp only [Act.put, List.setIfInBounds_toArray, List.set_cons_zero, List.set_cons_succ]
            iterate 3
              refine' lexF_free (v := _) rfl rfl ?_ (fun _ _ _ h => h) ?_
              rotate_left
              · rintro W ⟨h1, h2, h3, h4, h5, h6, h7, h8⟩
                go_simp
                with_reducible rfl
              try simp only [Act.put, List.setIfInBounds_toArray, List.set_cons_zero, List.set_cons_succ]
            obtain ⟨d0, d1, d2, d3, d4, d5, d6, d7⟩ := rd0_cells P8.out
            have fd : ∀ o, V15.frozen? ⟨b8, o, none⟩ = false := fun o => frozen_of_row V15 _ o _ _ P8.out
            refine lexF_one rfl rfl ?_
            intro K hK
            go_simp
            have c3 := chg_set8 (Chg.refl (OneP b8) V15) (.inl rfl) (sv [116]) (.int .i64 rd.col) (.int .i64 rd.lo.kind) (.int .i64 rd.lo.num) (sv rd.lo.str) (.int .i64 rd.hi.kind) (.int .i64 rd.hi.num) (sv rd.hi.str)
            replace C := Lib.hid (C.out.trans c3 (fun q e => .inr (by unfold OneP at e; have := G8.out; have := HZ.out; omega)))
            replace P8 := Lib.hid (rd_set P8.out rd)
            clear c3
            refine hK _ _ (fun _ => HS.out _ C.out) ?_
            clear hK K
            try simp only [Act.put, List.setIfInBounds_toArray, List.set_cons_zero, List.set_cons_succ]
            iterate 1
              refine' lexF_free (v := _) rfl rfl ?_ (fun _ _ _ h => h) ?_
              rotate_left
              · rintro W ⟨h1, h2, h3, h4, h5, h6, h7, h8⟩
                go_simp
                with_reducible rfl
              try simp only [Act.put, List.setIfInBounds_toArray, List.set_cons_zero, List.set_cons_succ]
            refine lexF_done ?_
            clear d0 d1 d2 d3 d4 d5 d6 d7 fd
            go_wp2_with fail
            go_meet
            exact ⟨b8, rd, n, rfl, rfl, Lib.hid (HM.out _ b8 rd (by have := G8.out; have := HZ.out; omega) P8.out HOK.out C.out)⟩
        · intro K hK
          go_simp
          have c := (Chg.refl NoB V10).alloc rd0
          have P8 : Hid ((V10.alloc rd0).heap[V10.heap.size]? = some rd0) := Lib.hid hal_new
          have G8 : Hid (z0 ≤ V10.heap.size) := Lib.hid (by have := C.out.size; have := HZ.out; omega)
          replace P2 := Lib.hid (c.heap P2.out (fun h => h))
          replace C := Lib.hid (C.out.trans c (fun _ h => h.elim))
          clear c
          refine hK _ _ (fun _ => HS.out _ C.out) ?_
          clear hK K
          try simp only [Act.put, List.setIfInBounds_toArray, List.set_cons_zero, List.set_cons_succ]
          generalize hWW : V10.alloc _ = V16
          rw [show V10.alloc rd0 = V16 from hWW] at P8 C P2
          generalize hbb : V10.heap.size = b8 at P8 G8 ⊢
          clear hWW hbb
          refine lexF_one rfl rfl ?_
          intro K hK
          go_simp
          have c := (Chg.refl NoB V16).alloc B.obj
          have P1 : Hid ((V16.alloc B.obj).heap[V16.heap.size]? = some B.obj) := Lib.hid hal_new
          replace P2 := Lib.hid (c.heap P2.out (fun h => h))
          replace P8 := Lib.hid (c.heap P8.out (fun h => h))
          replace C := Lib.hid (C.out.trans c (fun _ h => h.elim))
          clear c
          refine hK _ _ (fun _ => HS.out _ C.out) ?_
          clear hK K
          try simp only [Act.put, List.setIfInBounds_toArray, List.set_cons_zero, List.set_cons_succ]
          generalize hWW : V16.alloc _ = V17
          rw [show V16.alloc B.obj = V17 from hWW] at P1 C P2 P8
          generalize hbb : V16.heap.size = b1 at P1 ⊢
          clear hWW hbb
          refine lexF_one rfl rfl ?_
          intro K hK
          go_simp
          refine (choose_any cols4 rfl y t TY.out.1 B b1 1 tb 4 _ (fun _ => True) H l HLL.out ao2 cap2 _ (lt_of_heap P1.out) (range_block P1.out) (ExAt.quiet C.out HX0.out) (tabT_of P2.out trivial) (RowAt.quiet HI0.out C.out)).mono ?_
          intro e V18 ho
          obtain ⟨c, rd, n, rfl, hok⟩ := ho
          have HOK := Lib.hid hok
          replace P1 := Lib.hid (c.heap P1.out (fun h => h))
          replace P2 := Lib.hid (c.heap P2.out (fun h => h))
          replace P8 := Lib.hid (c.heap P8.out (fun h => h))
          replace C := Lib.hid (C.out.trans c (fun _ h => h.elim))
          clear c hok
          refine hK _ _ (fun _ => HS.out _ C.out) ?_
          clear hK K
          try simp only [Act.put, List.setIfInBounds_toArray, List.set_cons_zero, List.set_cons_succ]
          iterate 3
            refine' lexF_free (v := _) rfl rfl ?_ (fun _ _ _ h => h) ?_
            rotate_left
            · rintro W ⟨h1, h2, h3, h4, h5, h6, h7, h8⟩
              go_simp
              with_reducible rfl
            try simp only [Act.put, List.setIfInBounds_toArray, List.set_cons_zero, List.set_cons_succ]
          obtain ⟨d0, d1, d2, d3, d4, d5, d6, d7⟩ := rd0_cells P8.out
          have fd : ∀ o, V18.frozen? ⟨b8, o, none⟩ = false := fun o => frozen_of_row V18 _ o _ _ P8.out
          refine lexF_one rfl rfl ?_
          intro K hK
          go_simp
          have c3 := chg_set8 (Chg.refl (OneP b8) V18) (.inl rfl) (sv [116]) (.int .i64 rd.col) (.int .i64 rd.lo.kind) (.int .i64 rd.lo.num) (sv rd.lo.str) (.int .i64 rd.hi.kind) (.int .i64 rd.hi.num) (sv rd.hi.str)
          replace C := Lib.hid (C.out.trans c3 (fun q e => .inr (by unfold OneP at e; have := G8.out; have := HZ.out; omega)))
          replace P8 := Lib.hid (rd_set P8.out rd)
          clear c3
          refine hK _ _ (fun _ => HS.out _ C.out) ?_
          clear hK K
          try simp only [Act.put, List.setIfInBounds_toArray, List.set_cons_zero, List.set_cons_succ]
          iterate 1
            refine' lexF_free (v := _) rfl rfl ?_ (fun _ _ _ h => h) ?_
            rotate_left
            · rintro W ⟨h1, h2, h3, h4, h5, h6, h7, h8⟩
              go_simp
              with_reducible rfl
            try simp only [Act.put, List.setIfInBounds_toArray, List.set_cons_zero, List.set_cons_succ]
          refine lexF_done ?_
          clear d0 d1 d2 d3 d4 d5 d6 d7 fd
          go_wp2_with fail
          go_meet
          exact ⟨b8, rd, n, rfl, rfl, Lib.hid (HM.out _ b8 rd (by have := G8.out; have := HZ.out; omega) P8.out HOK.out C.out)⟩
      · intro K hK
        go_simp
        have c := (Chg.refl NoB V0).alloc rd0
        have P8 : Hid ((V0.alloc rd0).heap[V0.heap.size]? = some rd0) := Lib.hid hal_new
        have G8 : Hid (z0 ≤ V0.heap.size) := Lib.hid (by have := C.out.size; have := HZ.out; omega)
        replace C := Lib.hid (C.out.trans c (fun _ h => h.elim))
        clear c
        refine hK _ _ (fun _ => HS.out _ C.out) ?_
        clear hK K
        try simp only [Act.put, List.setIfInBounds_toArray, List.set_cons_zero, List.set_cons_succ]
        generalize hWW : V0.alloc _ = V19
        rw [show V0.alloc rd0 = V19 from hWW] at P8 C
        generalize hbb : V0.heap.size = b8 at P8 G8 ⊢
        clear hWW hbb
        refine lexF_fork rfl rfl rfl rfl ?_ ?_
        · intro K hK
          go_simp
          have c := (Chg.refl NoB V19).alloc B.obj
          have P1 : Hid ((V19.alloc B.obj).heap[V19.heap.size]? = some B.obj) := Lib.hid hal_new
          replace P8 := Lib.hid (c.heap P8.out (fun h => h))
          replace C := Lib.hid (C.out.trans c (fun _ h => h.elim))
          clear c
          refine hK _ _ (fun _ => HS.out _ C.out) ?_
          clear hK K
          try simp only [Act.put, List.setIfInBounds_toArray, List.set_cons_zero, List.set_cons_succ]
          generalize hWW : V19.alloc _ = V20
          rw [show V19.alloc B.obj = V20 from hWW] at P1 C P8
          generalize hbb : V19.heap.size = b1 at P1 ⊢
          clear hWW hbb
          refine lexF_one rfl rfl ?_
          intro K hK
          go_simp
          refine (things_any _).mono ?_
          intro e V21 ho
          obtain ⟨tb, rfl, hlo, hp, c⟩ := ho
          have P2 := Lib.hid hp
          replace P1 := Lib.hid (c.heap P1.out (fun h => h))
          replace P8 := Lib.hid (c.heap P8.out (fun h => h))
          replace C := Lib.hid (C.out.trans c (fun _ h => h.elim))
          clear c hp hlo
          refine hK _ _ (fun _ => HS.out _ C.out) ?_
          clear hK K
          try simp only [Act.put, List.setIfInBounds_toArray, List.set_cons_zero, List.set_cons_succ]
          refine lexF_one rfl rfl ?_
          intro K hK
          go_simp
          refine (choose_any cols4 rfl y t TY.out.1 B b1 1 tb 4 _ (fun _ => True) H l HLL.out ao2 cap2 _ (lt_of_heap P1.out) (range_block P1.out) (ExAt.quiet C.out HX0.out) (tabT_of P2.out trivial) (RowAt.quiet HI0.out C.out)).mono ?_
          intro e V22 ho
          obtain ⟨c, rd, n, rfl, hok⟩ := ho
          have HOK := Lib.hid hok
          replace P1 := Lib.hid (c.heap P1.out (fun h => h))
          replace P2 := Lib.hid (c.heap P2.out (fun h => h))
          replace P8 := Lib.hid (c.heap P8.out (fun h => h))
          replace C := Lib.hid (C.out.trans c (fun _ h => h.elim))
          clear c hok
          refine hK _ _ (fun _ => HS.out _ C.out) ?_
          clear hK K
          try simp only [Act.put, List.setIfInBounds_toArray, List.set_cons_zero, List.set_cons_succ]
          iterate 3
            refine' lexF_free (v := _) rfl rfl ?_ (fun _ _ _ h => h) ?_
            rotate_left
            · rintro W ⟨h1, h2, h3, h4, h5, h6, h7, h8⟩
              go_simp
              with_reducible rfl
            try simp only [Act.put, List.setIfInBounds_toArray, List.set_cons_zero, List.set_cons_succ]
          obtain ⟨d0, d1, d2, d3, d4, d5, d6, d7⟩ := rd0_cells P8.out
          have fd : ∀ o, V22.frozen? ⟨b8, o, none⟩ = false := fun o => frozen_of_row V22 _ o _ _ P8.out
          refine lexF_one rfl rfl ?_
          intro K hK
          go_simp
          have c3 := chg_set8 (Chg.refl (OneP b8) V22) (.inl rfl) (sv [116]) (.int .i64 rd.col) (.int .i64 rd.lo.kind) (.int .i64 rd.lo.num) (sv rd.lo.str) (.int .i64 rd.hi.kind) (.int .i64 rd.hi.num) (sv rd.hi.str)
          replace C := Lib.hid (C.out.trans c3 (fun q e => .inr (by unfold OneP at e; have := G8.out; have := HZ.out; omega)))
          replace P8 := Lib.hid (rd_set P8.out rd)
          clear c3
          refine hK _ _ (fun _ => HS.out _ C.out) ?_
          clear hK K
          try simp only [Act.put, List.setIfInBounds_toArray, List.set_cons_zero, List.set_cons_succ]
          iterate 1
            refine' lexF_free (v := _) rfl rfl ?_ (fun _ _ _ h => h) ?_
            rotate_left
            · rintro W ⟨h1, h2, h3, h4, h5, h6, h7, h8⟩
              go_simp
              with_reducible rfl
            try simp only [Act.put, List.setIfInBounds_toArray, List.set_cons_zero, List.set_cons_succ]
          refine lexF_done ?_
          clear d0 d1 d2 d3 d4 d5 d6 d7 fd
          go_wp2_with fail
          go_meet
          exact ⟨b8, rd, n, rfl, rfl, Lib.hid (HM.out _ b8 rd (by have := G8.out; have := HZ.out; omega) P8.out HOK.out C.out)⟩
        · intro K hK
          go_simp
          refine (things_any _).mono ?_
          intro e V23 ho
          obtain ⟨tb, rfl, hlo, hp, c⟩ := ho
          have P2 := Lib.hid hp
          replace P8 := Lib.hid (c.heap P8.out (fun h => h))
          replace C := Lib.hid (C.out.trans c (fun _ h => h.elim))
          clear c hp hlo
          refine hK _ _ (fun _ => HS.out _ C.out) ?_
          clear hK K
          try simp only [Act.put, List.setIfInBounds_toArray, List.set_cons_zero, List.set_cons_succ]
          refine lexF_one rfl rfl ?_
          intro K hK
          go_simp
          have c := (Chg.refl NoB V23).alloc B.obj
          have P1 : Hid ((V23.alloc B.obj).heap[V23.heap.size]? = some B.obj) := Lib.hid hal_new
          replace P2 := Lib.hid (c.heap P2.out (fun h => h))
          replace P8 := Lib.hid (c.heap P8.out (fun h => h))
          replace C := Lib.hid (C.out.trans c (fun _ h => h.elim))
          clear c
          refine hK _ _ (fun _ => HS.out _ C.out) ?_
          clear hK K
          try simp only [Act.put, List.setIfInBounds_toArray, List.set_cons_zero, List.set_cons_succ]
          generalize hWW : V23.alloc _ = V24
          rw [show V23.alloc B.obj = V24 from hWW] at P1 C P2 P8
          generalize hbb : V23.heap.size = b1 at P1 ⊢
          clear hWW hbb
          refine lexF_one rfl rfl ?_
          intro K hK
          go_simp
          refine (choose_any cols4 rfl y t TY.out.1 B b1 1 tb 4 _ (fun _ => True) H l HLL.out ao2 cap2 _ (lt_of_heap P1.out) (range_block P1.out) (ExAt.quiet C.out HX0.out) (tabT_of P2.out trivial) (RowAt.quiet HI0.out C.out)).mono ?_
          intro e V25 ho
          obtain ⟨c, rd, n, rfl, hok⟩ := ho
          have HOK := Lib.hid hok
          replace P1 := Lib.hid (c.heap P1.out (fun h => h))
          replace P2 := Lib.hid (c.heap P2.out (fun h => h))
          replace P8 := Lib.hid (c.heap P8.out (fun h => h))
          replace C := Lib.hid (C.out.trans c (fun _ h => h.elim))
          clear c hok
          refine hK _ _ (fun _ => HS.out _ C.out) ?_
          clear hK K
          try simp only [Act.put, List.setIfInBounds_toArray, List.set_cons_zero, List.set_cons_succ]
          iterate 3
            refine' lexF_free (v := _) rfl rfl ?_ (fun _ _ _ h => h) ?_
            rotate_left
            · rintro W ⟨h1, h2, h3, h4, h5, h6, h7, h8⟩
              go_simp
              with_reducible rfl
            try simp only [Act.put, List.setIfInBounds_toArray, List.set_cons_zero, List.set_cons_succ]
          obtain ⟨d0, d1, d2, d3, d4, d5, d6, d7⟩ := rd0_cells P8.out
          have fd : ∀ o, V25.frozen? ⟨b8, o, none⟩ = false := fun o => frozen_of_row V25 _ o _ _ P8.out
          refine lexF_one rfl rfl ?_
          intro K hK
          go_simp
          have c3 := chg_set8 (Chg.refl (OneP b8) V25) (.inl rfl) (sv [116]) (.int .i64 rd.col) (.int .i64 rd.lo.kind) (.int .i64 rd.lo.num) (sv rd.lo.str) (.int .i64 rd.hi.kind) (.int .i64 rd.hi.num) (sv rd.hi.str)
          replace C := Lib.hid (C.out.trans c3 (fun q e => .inr (by unfold OneP at e; have := G8.out; have := HZ.out; omega)))
          replace P8 := Lib.hid (rd_set P8.out rd)
          clear c3
          refine hK _ _ (fun _ => HS.out _ C.out) ?_
          clear hK K
          try simp only [Act.put, List.setIfInBounds_toArray, List.set_cons_zero, List.set_cons_succ]
          iterate 1
            refine' lexF_free (v := _) rfl rfl ?_ (fun _ _ _ h => h) ?_
            rotate_left
            · rintro W ⟨h1, h2, h3, h4, h5, h6, h7, h8⟩
              go_simp
              with_reducible rfl
            try simp only [Act.put, List.setIfInBounds_toArray, List.set_cons_zero, List.set_cons_succ]
          refine lexF_done ?_
          clear d0 d1 d2 d3 d4 d5 d6 d7 fd
          go_wp2_with fail
          go_meet
          exact ⟨b8, rd, n, rfl, rfl, Lib.hid (HM.out _ b8 rd (by have := G8.out; have := HZ.out; omega) P8.out HOK.out C.out)⟩
    case rest =>
      obtain ⟨b10, rd, n, rfl, rfl, HM⟩ := hcut
      have C0 : Hid (Chg NoB w wc) := Lib.hid (X3.out.trans HM.out.c (fun _ h => .inl h))
      have Y0 := Lib.hid (ExAt.quiet HM.out.c HY.out)
      have BB : Hid (wc.heap[w2.heap.size + 1]? = some B.obj) := Lib.hid (HM.out.c.heap B8.out (fun h => h))
      have RK := Lib.hid HM.out.ok
      have P10 := Lib.hid HM.out.h10
      have LR : Hid (RowsAt wc (fun g => g < wc.heap.size) (.slice ao rows.length cap) rows) := Lib.hid (RowsAt.mono (R0.out.quiet C0.out) (fun g hg _ => by have := C0.out.size; omega))
      have HI : Hid (RInv wc rd rows 0 nilS wc) := Lib.hid ⟨Chg.refl _ _, fun r h => by simp at h, Rws.nil _ _ _⟩
      clear HM HY B8 X3 R0 I0 HLL hrl
      go_wp2_with fail
      go_loopw [12, 13] (fun v i wr => ∃ j : Nat, i = .int .i64 j ∧ j ≤ rows.length ∧ ∃ u, v = u ∧ Hid (RInv wc rd rows j u wr)) (fun _ i _ => (rows.length - intOf i).toNat)
      case atStart => exact ⟨0, rfl, Nat.zero_le _, _, rfl, HI⟩
      case round =>
        obtain ⟨j, rfl, hj, u, rfl, HJ⟩ := hrel
        obtain ⟨uo, uc, hu⟩ := HJ.out.out.form
        subst hu
        have holen : ((rows.take j).filter (covB rd)).length ≤ 1000 := by
          have := List.length_filter_le (covB rd) (rows.take j)
          have h2 : (rows.take j).length ≤ rows.length := by rw [List.length_take]; omega
          omega
        obtain ⟨m, hm⟩ : ∃ m, ((rows.take j).filter (covB rd)).length = m := ⟨_, rfl⟩
        have HMM := Lib.hid hm
        rw [hm] at HJ holen ⊢
        clear hm
        have hn1 : (m : Int) ≤ 10000 := by omega
        by_cases hlt : j < rows.length
        · obtain ⟨r, hr⟩ : ∃ r, rows[j]? = some r := ⟨_, List.getElem?_eq_getElem hlt⟩
          obtain ⟨b, o, ao3, c3, rfl, hb, _, hc, hv⟩ := (LR.out.quiet HJ.out.c).row hr
          have HTK : Hid (rows.take (j + 1) = rows.take j ++ [r]) := Lib.hid (by rw [List.take_add_one, hr]; rfl)
          have HV := Lib.hid hv
          have hmem := List.mem_of_getElem? hr
          have HMEM := Lib.hid hmem
          have hr9 := HL1.out r hmem
          have HCC := Lib.hid hc
          clear hr hv hmem
          obtain ⟨q, hq⟩ : ∃ q, rightB [1, 1, 1, 3] r = q := ⟨_, rfl⟩
          have HQ := Lib.hid hq
          have HRT : Hid (∀ W : World, Chg NoB wr W → W.heap[wr.heap.size]? = some (.cells #[.int .i64 1, .int .i64 1, .int .i64 1, .int .i64 3] 3) → Calls Tryz.prog 9 #[.slice ao3 r.length c3, .slice (some ⟨wr.heap.size, 0, none⟩) 4 4] W fun e w' => e = .returned (.bool q) ∧ Chg NoB W w') := Lib.hid fun W c hw => by
            rw [← hq]
            exact right_any r [1, 1, 1, 3] _ (fun _ => True) ao3 (some ⟨wr.heap.size, 0, none⟩) c3 4 hr9 W (RowAt.quiet HV.out c) ⟨_, _, rfl, fun _ => ⟨_, 0, rfl, lt_of_heap hw, trivial, range_block hw⟩⟩
          clear hq
          go_wp2_with fail
          refine (HRT.out _ ((Chg.refl _ _).alloc _) hal_new).mono ?_
          rintro e w3 ⟨rfl, c3'⟩
          have C3 : Hid (Chg NoB wr w3) := Lib.hid (((Chg.refl _ _).alloc _).trans c3' (fun _ h => .inl h))
          clear c3'
          cases q with
          | false =>
            go_wp2_with fail
            go_ret
            exact ⟨rfl, C0.out.trans (HJ.out.c.trans C3.out (fun _ h => .inl h)) (fun _ h => .inl h)⟩
          | true =>
            have HOK : Hid (rowOk cols4 r) := Lib.hid ((right_iff cols4 r).1 HQ.out)
            have HS : Hid (∀ V, Chg NoB w3 V → V.cell? ⟨b10, 0, none⟩ = some (sv [116]) ∧ V.cell? ⟨b10, 1, none⟩ = some (.int .i64 rd.col) ∧ V.cell? ⟨b10, 2, none⟩ = some (.int .i64 rd.lo.kind) ∧ V.cell? ⟨b10, 3, none⟩ = some (.int .i64 rd.lo.num) ∧ V.cell? ⟨b10, 4, none⟩ = some (sv rd.lo.str) ∧ V.cell? ⟨b10, 5, none⟩ = some (.int .i64 rd.hi.kind) ∧ V.cell? ⟨b10, 6, none⟩ = some (.int .i64 rd.hi.num) ∧ V.cell? ⟨b10, 7, none⟩ = some (sv rd.hi.str) ∧ V.cell? ⟨b, o + j, none⟩ = some (.slice ao3 r.length c3)) := Lib.hid fun V c => by
              have X := C3.out.trans c (fun _ h => .inl h)
              obtain ⟨q0, q1, q2, q3, q4, q5, q6, q7⟩ := RdCells.of ((HJ.out.c.trans X (fun _ h => .inl h)).heap P10.out (fun h => h))
              exact ⟨q0, q1, q2, q3, q4, q5, q6, q7, (cell_of_heap (X.keep b hb (fun h => h))).trans HCC.out⟩
            have HCV : Hid (∀ W : World, Chg NoB w3 W → Calls Tryz.prog 10 #[rd.val, .slice ao3 r.length c3] W fun e w' => e = .returned (.bool (covB rd r)) ∧ Chg NoB W w') := Lib.hid fun W c => by
              exact covers_any cols4 y r HOK.out rd RK.out _ ao3 c3 (by have h4 : r.length = 4 := HOK.out.1; omega) W (RowAt.quiet HV.out (C3.out.trans c (fun _ h => .inl h)))
            have hji : (j : Int) < rows.length := by omega
            obtain ⟨q, hq⟩ : ∃ q, covB rd r = q := ⟨_, rfl⟩
            have HQ2 := Lib.hid hq
            rw [hq] at HCV
            clear hq hc
            go_wp2_with fail
            refine wp_region_lex (fun V => V.cell? ⟨b10, 0, none⟩ = some (sv [116]) ∧ V.cell? ⟨b10, 1, none⟩ = some (.int .i64 rd.col) ∧ V.cell? ⟨b10, 2, none⟩ = some (.int .i64 rd.lo.kind) ∧ V.cell? ⟨b10, 3, none⟩ = some (.int .i64 rd.lo.num) ∧ V.cell? ⟨b10, 4, none⟩ = some (sv rd.lo.str) ∧ V.cell? ⟨b10, 5, none⟩ = some (.int .i64 rd.hi.kind) ∧ V.cell? ⟨b10, 6, none⟩ = some (.int .i64 rd.hi.num) ∧ V.cell? ⟨b10, 7, none⟩ = some (sv rd.hi.str) ∧ V.cell? ⟨b, o + j, none⟩ = some (.slice ao3 r.length c3)) 99 [5] [0, 1, 2, 3, 4, 5] (by kernel_rfl) (by kernel_rfl) (HS.out _ (Chg.refl _ _).drew) ?_
            iterate 5
              refine' lex_free (v := _) rfl rfl rfl ?_ (fun _ _ _ h => h) ?_
              rotate_left
              · rintro W ⟨h1, h2, h3, h4, h5, h6, h7, h8, h9⟩
                go_simp
                with_reducible rfl
              try simp only [Act.put, List.setIfInBounds_toArray, List.set_cons_zero, List.set_cons_succ]
            refine lex_op rfl rfl rfl (fun K hK => ?_)
            go_simp
            refine (HCV.out _ (Chg.refl _ _).drew).mono ?_
            rintro e w4 ⟨rfl, c4⟩
            have C4 : Hid (Chg NoB w3 w4) := Lib.hid ((Chg.refl NoB w3).drew.trans c4 (fun _ h => .inl h))
            clear c4
            refine hK _ _ (fun _ => HS.out _ C4.out) ?_
            clear hK K
            try simp only [Act.put, List.setIfInBounds_toArray, List.set_cons_zero, List.set_cons_succ]
            refine lex_nil ?_
            have C5 : Hid (Chg NoB wr w4) := Lib.hid (C3.out.trans C4.out (fun _ h => .inl h))
            have OK2 : Hid (∀ r' ∈ rows.take (j + 1), rowOk cols4 r') := Lib.hid (by
              rw [HTK.out]
              intro r' h
              rcases List.mem_append.1 h with h | h
              · exact HJ.out.ok r' h
              · obtain rfl := List.mem_singleton.1 h
                exact HOK.out)
            cases q with
            | false =>
              have HO : Hid (RInv wc rd rows (j + 1) (.slice uo m uc) w4) := Lib.hid ⟨HJ.out.c.trans C5.out (fun _ h => .inl h), OK2.out, by
                have := HJ.out.out.quiet C5.out
                rw [HTK.out, List.filter_append, List.filter_cons_of_neg (by simp [HQ2.out]), List.filter_nil, List.append_nil]
                exact this⟩
              go_wp2_with fail
              go_round
              case rel => exact ⟨j + 1, by go_num, by omega, _, rfl, HO⟩
              case measure => simp [intOf]; omega
            | true =>
              have c0 := (HS.out _ C4.out).2.2.2.2.2.2.2.2
              have H4 : Hid (ValsAt w4 (fun g => g < wc.heap.size ∧ (Value.slice uo m uc).ownBlock ≠ some g) (.slice ao3 r.length c3) r) := Lib.hid (RowAt.mono (RowAt.quiet HV.out C5.out) fun g hg _ => ⟨hg, fun e => by have := (HJ.out.out.own e).1; omega⟩)
              have J4 := Lib.hid (HJ.out.out.quiet C5.out)
              have lo9 : Hid (∀ g, (Value.slice uo m uc).ownBlock = some g → wc.heap.size ≤ g) := Lib.hid fun g hg => (HJ.out.out.own hg).1
              have hsz : wc.heap.size ≤ w4.heap.size := (HJ.out.c.trans C5.out (fun _ h => .inl h)).size
              go_wp2_with (at_builtin; refine rws_app rfl _ _ rfl (fun g => g < wc.heap.size) wc.heap.size _ ((rows.take j).filter (covB rd)) m HMM.out rfl (Rws.quiet J4.out ((Chg.refl _ _).alloc _)) w4.heap.size (.slice ao3 r.length c3) r rfl hal_new (RowAt.quiet H4.out ((Chg.refl _ _).alloc _)) ?_ ?_ ?_)
              · omega
              · simp; omega
              · intro ao9 c9 w9 r9 x9 _
                have y9 := ((Chg.refl (fun g => (Value.slice uo m uc).ownBlock = some g) w4).alloc (.cells #[.slice ao3 r.length c3] 41)).trans x9 (fun k h => .inl h)
                have HO : Hid (RInv wc rd rows (j + 1) (.slice ao9 (m + 1) c9) w9) := Lib.hid
                  ⟨(HJ.out.c.trans C5.out (fun _ h => .inl h)).trans y9 (fun g e => .inr (lo9.out g e)), OK2.out, by
                    rw [HTK.out, List.filter_append, List.filter_cons_of_pos HQ2.out, List.filter_nil]; exact r9⟩
                clear r9 x9 y9
                go_wp2_with fail
                go_round
                case rel => exact ⟨j + 1, by go_num, by omega, _, rfl, HO⟩
                case measure => simp [intOf]; omega
        · obtain rfl : j = rows.length := by omega
          have hall : ∀ r ∈ rows, rowOk cols4 r := by have := HJ.out.ok; rwa [List.take_length] at this
          have hs0 := HJ.out.out
          have hm2 := HMM.out
          rw [List.take_length] at hs0 hm2
          have hle : (rows.filter (covB rd)).length ≤ rows.length := List.length_filter_le _ _
          have HF1 := Lib.hid (filter_any cols4 (by decide) (by decide) rows hlen hall y t TY.out.1 TY.out.2 B _ _ ao cap wr (ExAt.quiet HJ.out.c Y0.out) (LR.out.quiet HJ.out.c))
          have HF2 : Hid (∀ W, Chg NoB wr W → Calls Tryz.prog 11 #[.slice uo m uc, B.val] W (FlOut y (rows.filter (covB rd)) W)) := Lib.hid fun W c => by
            have h2 := hs0.read.quiet c
            rw [← hm2] at h2 ⊢
            exact filter_any cols4 (by decide) (by decide) (rows.filter (covB rd)) (by omega) (fun r hr => hall r ((List.mem_filter.1 hr).1)) y t TY.out.1 TY.out.2 B _ _ uo uc W (ExAt.quiet (HJ.out.c.trans c (fun _ h => .inl h)) Y0.out) h2
          have FS := Lib.hid (filtRes_same cols4 rd y RK.out rows hall HN.out)
          have FL : Hid ((filtRes y rows).length ≤ 1000000 ∧ ∀ r ∈ filtRes y rows, r.length ≤ 1000000) := Lib.hid (by
            unfold filtRes
            split
            · exact ⟨Nat.le_trans (filtOut_len y rows) (by omega), fun r hr => by have := (hall r ((List.mem_filter.1 hr).1)).1; have h4 : r.length = 4 := this; omega⟩
            · exact ⟨Nat.zero_le _, fun r hr => by cases hr⟩)
          have BR : Hid (wr.heap[w2.heap.size + 1]? = some B.obj) := Lib.hid (HJ.out.c.heap BB.out (fun h => h))
          have CR0 : Hid (Chg NoB w wr) := Lib.hid (C0.out.trans HJ.out.c (fun _ h => .inl h))
          clear hall hs0 hm2 hle
          obtain ⟨e0, e1, e2, e3, e4, e5, e6, e7⟩ := ExCells.of BR.out
          go_wp2_with fail
          refine HF1.out.mono ?_
          rintro e w5 ⟨c5, v5, rfl, r5⟩
          obtain ⟨a5, k5, rfl⟩ := r5.form
          have C5 := Lib.hid c5
          have R5 := Lib.hid r5
          clear c5 r5 e0 e1 e2 e3 e4 e5 e6 e7
          obtain ⟨e0, e1, e2, e3, e4, e5, e6, e7⟩ := ExCells.of (C5.out.heap BR.out (fun h => h))
          go_wp2_with fail
          refine (HF2.out w5 C5.out).mono ?_
          rintro e w6 ⟨c6, v6, rfl, r6⟩
          rw [FS.out.2] at r6
          rw [FS.out.1]
          obtain ⟨a6, k6, rfl⟩ := r6.form
          have C6 : Hid (Chg NoB w w6) := Lib.hid ((CR0.out.trans C5.out (fun _ h => .inl h)).trans c6 (fun _ h => .inl h))
          have R6 := Lib.hid r6
          replace R5 := Lib.hid (R5.out.quiet c6)
          clear c6 r6 e0 e1 e2 e3 e4 e5 e6 e7 HF1 HF2 FS
          generalize filtRes y rows = R at R5 R6 FL ⊢
          generalize filtErr y rows = er
          have hee : (er == er) = true := by simp
          go_wp2_with fail
          refine (same15_any R _ _ a5 a6 k5 k6 FL.out.1 FL.out.2 w6 R5.out R6.out).mono ?_
          rintro e w7 ⟨rfl, c7⟩
          have C7 := Lib.hid (C6.out.trans c7 (fun _ h => .inl h))
          clear c7
          go_wp2_with fail
          go_ret
          exact ⟨rfl, C7.out⟩
  · rw [ho]
    have X3 : Hid (∀ o o', Chg NoB w ((w2.alloc o).alloc o')) := Lib.hid fun o o' => (X2.out.alloc _).alloc _
    have bl : ((rows.length : Int) > 1000) = True := by simp; omega
    clear X1
    go_wp2_with fail
    go_ret
    exact ⟨rfl, X3.out _ _⟩
end Go.Proofs.YtnbckfkdmkbopaaGreatDoor
