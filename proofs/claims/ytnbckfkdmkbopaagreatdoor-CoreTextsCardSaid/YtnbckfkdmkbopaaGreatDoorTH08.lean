/-
  The parser's chain: parts with signs between them, to the left. No condition beyond each lemma's own.
-/
import Derived.Test.YtnbckfkdmkbopaaGreatDoorTH06
import Derived.Test.YtnbckfkdmkbopaaGreatDoorTH07
set_option autoImplicit false
namespace Go.Proofs.YtnbckfkdmkbopaaGreatDoor
open Go Go.RowKit

def boolOf : Value → Bool
  | .bool b => b
  | _ => false
/-- how many tokens a parser has ahead -/
def parLen (w : World) (p : Nat) : Nat := match w.cell? ⟨p, 0, none⟩ with
  | some (.slice _ n _) => n
  | _ => 0
theorem PAt.len {w : World} {p tb : Nat} {ts : List Tok} (h : PAt w p tb ts) : parLen w p = ts.length := by
  obtain ⟨_, _, ao, c, _, hh, _⟩ := h
  have := cell_of_row w p 0 _ _ _ hh
  unfold parLen
  rw [this]
  rfl
theorem pick_cons_no {k : Int} {s : Str} {o : Int} {l : List (Str × Int)} {ts : List Tok} (h : nextT k s ts = none) : pick k ((s, o) :: l) ts = pick k l ts := by
  conv => lhs; unfold pick
  rw [h]
theorem pick_cons_yes {k : Int} {s : Str} {o : Int} {l : List (Str × Int)} {ts r : List Tok} (h : nextT k s ts = some r) : pick k ((s, o) :: l) ts = some (o, r) := by
  unfold pick
  rw [h]
theorem chainL_stop {g : Ptree} {k : Int} {ops : List (Str × Int)} {n : Nat} {x : Ex} {ts : List Tok} (h : pick k ops ts = none) : chainL g k ops (n + 1) x ts = some (x, ts) := by
  unfold chainL; rw [h]
theorem chainL_bad {g : Ptree} {k o : Int} {ops : List (Str × Int)} {n : Nat} {x : Ex} {ts r : List Tok} (h : pick k ops ts = some (o, r)) (hg : g r = none) : chainL g k ops (n + 1) x ts = none := by
  unfold chainL; rw [h]; simp only; rw [hg]
theorem chainL_go {g : Ptree} {k o : Int} {ops : List (Str × Int)} {n : Nat} {x y : Ex} {ts r r' : List Tok} (h : pick k ops ts = some (o, r)) (hg : g r = some (y, r')) : chainL g k ops (n + 1) x ts = chainL g k ops n (.bin o x y) r' := by
  conv => lhs; unfold chainL
  rw [h]; simp only; rw [hg]
theorem chg_set8 {F : Nat → Prop} {a w : World} {b : Nat} (h : Chg F a w) (hb : F b ∨ a.heap.size ≤ b) (v0 v1 v2 v3 v4 v5 v6 v7 : Value) :
    Chg F a ((((((((w.setCell ⟨b, 0, none⟩ v0).setCell ⟨b, 1, none⟩ v1).setCell ⟨b, 2, none⟩ v2).setCell ⟨b, 3, none⟩ v3).setCell ⟨b, 4, none⟩ v4).setCell ⟨b, 5, none⟩ v5).setCell ⟨b, 6, none⟩ v6).setCell ⟨b, 7, none⟩ v7) :=
  (((((((h.setCell hb _).setCell hb _).setCell hb _).setCell hb _).setCell hb _).setCell hb _).setCell hb _).setCell hb _
/-- the chain so far -/
structure ChInv (g : Ptree) (k : Int) (ops : List (Str × Int)) (ts : List Tok) (p tb xb N n : Nat) (x : Ex) (r : List Tok) (E : ExF) (b : Bool) (w wr : World) : Prop where
  blk : wr.heap[xb]? = some E.obj
  tree : ExAt wr (fun q => w.heap.size < q ∧ q ≠ xb) x E
  par : PAt wr p tb r
  zero : wr.heap[w.heap.size]? = some (ExF.obj ⟨0, 0, 0, [], [], [], 0, none, 0, 0⟩)
  chg : Chg (OneP p) w wr
  lt : r.length < n
  le : r.length ≤ N
  go : b = true → chainP g k ops ts = chainL g k ops n x r
  stop : b = false → chainP g k ops ts = some (x, r)
set_option maxRecDepth 100000 in
set_option maxHeartbeats 4000000 in
theorem chain_any (f : Nat) (ef : ∀ args w, (callFunc f args).run Tryz.prog w = .ok (.enter f args) w) (g : Ptree) (N p tb : Nat) (hp10 : 10 ≤ p)
    (hp : ∀ ts w, ts.length ≤ N → PAt w p tb ts → Glob w → Calls Tryz.prog f #[.pointer (some ⟨p, 0, none⟩)] w (POut (g ts) p tb w)) (hlen : ∀ ts x r, g ts = some (x, r) → r.length ≤ ts.length)
    (k : Int) (ops : List (Str × Int)) (hops : ops.length ≤ 100) (bs bk : Nat) (ts : List Tok) (w : World) (hN : ts.length ≤ N) (h : PAt w p tb ts) (hg : Glob w)
    (hbs : w.heap[bs]? = some (.cells (ops.map fun x => sv x.1).toArray 9 (0, 0))) (hbk : w.heap[bk]? = some (.cells (ops.map fun x => Value.int .i64 x.2).toArray 3 (0, 0))) (hsp : bs ≠ p) (hkp : bk ≠ p) :
    Calls Tryz.prog 147 #[.pointer (some ⟨p, 0, none⟩), .func (.func f) #[] #[], .int .i64 k, .slice (some ⟨bs, 0, none⟩) ops.length ops.length, .slice (some ⟨bk, 0, none⟩) ops.length ops.length] w (POut (chainP g k ops ts) p tb w) := by
  have HP := Lib.hid hp
  have HLen := Lib.hid hlen
  have HG := Lib.hid hg
  have HBS := Lib.hid hbs
  have HBK := Lib.hid hbk
  have hsl := lt_of_heap hbs
  have hkl := lt_of_heap hbk
  have hpl := h.lt
  have htl := h.tl
  have H := Lib.hid (h.quiet ((Chg.refl NoB w).alloc (ExF.obj ⟨0, 0, 0, [], [], [], 0, none, 0, 0⟩)))
  have HG1 := Lib.hid (hg.quiet ((Chg.refl NoB w).alloc (ExF.obj ⟨0, 0, 0, [], [], [], 0, none, 0, 0⟩)))
  clear hp hlen hg hbs hbk h
  go_enter Tryz.func147, Tryz.ntmps147
  go_wp2_with fail
  refine (HP.out ts _ hN H.out HG1.out).mono ?_
  intro e w1 ho
  obtain ⟨q, hq⟩ : ∃ q, g ts = q := ⟨_, rfl⟩
  rw [hq] at ho
  have X1 : Hid (Chg (OneP p) w w1) := Lib.hid (((Chg.refl (OneP p) w).alloc _).trans ho.1 (fun _ h => .inl h))
  have Z1 : Hid (w1.heap[w.heap.size]? = some (ExF.obj ⟨0, 0, 0, [], [], [], 0, none, 0, 0⟩)) := Lib.hid (ho.1.heap hal_new (by omega))
  rcases q with _ | ⟨x, r⟩
  · obtain ⟨_, rfl⟩ := ho
    exact ⟨rfl, POut.no (by unfold chainP; rw [hq]) X1.out⟩
  · obtain ⟨_, E, rfl, hx, hpar⟩ := ho
    have HQ := Lib.hid hq
    have TX := Lib.hid hx
    have PR := Lib.hid hpar
    have hrl := HLen.out _ _ _ hq
    have hz1 := X1.out.size
    clear hq hx hpar
    go_wp2
    go_loopw [12] (fun m wr => ∃ (b : Bool) (n : Nat) (x : Ex) (r : List Tok) (E : ExF), m = .bool b ∧ Hid (ChInv g k ops ts p tb w1.heap.size N n x r E b w wr)) (fun m wr => if boolOf m = true then parLen wr p + 1 else 0)
    case atStart =>
      refine ⟨true, r.length + 1, x, r, E, rfl, Lib.hid ⟨hal_new' rfl, ?_, PR.out.quiet ((Chg.refl NoB w1).alloc _), (hal_old (lt_of_heap Z1.out)).trans Z1.out, X1.out.alloc _, by omega, by omega, fun _ => ?_, fun h => by cases h⟩⟩
      · exact ExAt.quiet ((Chg.refl NoB w1).alloc _) (TX.out.mono (fun q h1 h2 => ⟨by simp at h1; omega, by omega⟩))
      · unfold chainP; rw [HQ.out]
    case round =>
      obtain ⟨b, n, x2, r2, E2, rfl, HI⟩ := hrel
      obtain ⟨e0, e1, e2, e3, e4, e5, e6, e7⟩ := ExCells.of HI.out.blk
      have z0 := ExCells.of HI.out.zero
      obtain ⟨z0, z1, z2, z3, z4, z5, z6, z7⟩ := z0
      have fz : ∀ o, wr.frozen? ⟨w.heap.size, o, none⟩ = false := fun o => frozen_of_row wr _ o _ _ HI.out.zero
      cases b with
      | false =>
        go_wp2
        have hX := chg_set8 (Chg.refl (OneP w.heap.size) wr) (.inl rfl) (.int .i64 E2.k) (.int .i64 E2.vk) (.int .i64 E2.vn) (sv E2.vs) (sv E2.t) (sv E2.n) (.int .i64 E2.s) (.slice E2.ao E2.m E2.c)
        refine ex_ret E2 rfl rfl (ex_set HI.out.zero E2) (POut.yes (HI.out.stop rfl) (chg_set8 HI.out.chg (.inr (Nat.le_refl _)) _ _ _ _ _ _ _ _) ?_ (HI.out.par.chg hX (fun e => by unfold OneP at e; omega) (fun e => by unfold OneP at e; omega)))
        exact (ExAt.chg hX (fun q h e => by unfold OneP at e; omega) _ _ HI.out.tree).mono (fun q h _ => by omega)
      | true =>
        go_wp2
        go_loop [12, 21] (fun m i => m = .bool false ∧ ∃ j : Nat, j ≤ ops.length ∧ i = .int .i64 j ∧ Hid (pick k ops r2 = pick k (ops.drop j) r2)) (fun _ i => ops.length - (intOf i).toNat)
        case atStart => exact ⟨rfl, 0, by omega, rfl, Lib.hid rfl⟩
        case round =>
          obtain ⟨rfl, j, hj, rfl, HJ⟩ := hrel
          by_cases hlt : j < ops.length
          · obtain ⟨⟨s, o⟩, hso⟩ : ∃ so, ops[j]? = some so := ⟨_, List.getElem?_eq_getElem hlt⟩
            have hd : ops.drop j = (s, o) :: ops.drop (j + 1) := by
              obtain ⟨hj', e⟩ := List.getElem?_eq_some_iff.1 hso
              rw [List.drop_eq_getElem_cons hj', e]
            have cs : wr.cell? ⟨bs, j, none⟩ = some (sv s) := by
              have := cell_of_row wr bs j _ _ _ (HI.out.chg.heap HBS.out hsp)
              rw [this]; simp [hso]
            have HSO := Lib.hid hso
            have HDD := Lib.hid hd
            clear hso hd
            obtain ⟨q2, hq2⟩ : ∃ q2, nextT k s r2 = q2 := ⟨_, rfl⟩
            rcases q2 with _ | r3
            · have HQ2 := Lib.hid hq2
              clear hq2
              go_wp2_with (go_at_call 72; refine (next_no HI.out.par HQ2.out).mono ?_; rintro e w' ⟨rfl, rfl⟩)
              go_round
              case rel => exact ⟨rfl, j + 1, by omega, by go_num, Lib.hid (by rw [HJ.out, HDD.out, pick_cons_no HQ2.out])⟩
              case measure => simp [intOf]; omega
            · have HQ2 := Lib.hid hq2
              clear hq2
              go_wp2_with (go_at_call 72; refine (next_yes HI.out.par HQ2.out).mono ?_; rintro e w2 ⟨rfl, HH⟩)
              have c2 : w2.cell? ⟨bk, j, none⟩ = some (.int .i64 o) := by
                have := cell_of_row w2 bk j _ _ _ (HH.out.2.heap (HI.out.chg.heap HBK.out hkp) hkp)
                rw [this]; simp [HSO.out]
              have hpx : ¬ w1.heap.size = p := by omega
              have HS : Hid (∀ W, Chg (OneP p) w2 W → W.cell? ⟨bk, j, none⟩ = some (.int .i64 o) ∧ ExCells W w1.heap.size E2) := Lib.hid fun W hW => by
                refine ⟨?_, ExCells.of (hW.heap (HH.out.2.heap HI.out.blk hpx) hpx)⟩
                have := cell_of_row W bk j _ _ _ (hW.heap (HH.out.2.heap (HI.out.chg.heap HBK.out hkp) hkp) hkp)
                rw [this]; simp [HSO.out]
              refine wp_region_lexU (fun W => W.cell? ⟨bk, j, none⟩ = some (.int .i64 o) ∧ ExCells W w1.heap.size E2) [10, 11] [7, 8, 9, 10, 11] [0, 1, 2, 3, 4, 5, 6, 7, 8, 9, 10, 11] (by kernel_rfl) (by kernel_rfl) (HS.out _ (Chg.refl _ _).drew) ?_
              iterate 7
                refine' lexU_free (v := _) rfl rfl rfl ?_ (fun _ _ _ h => h) ?_
                rotate_left
                · rintro W ⟨hW1, e0, e1, e2, e3, e4, e5, e6, e7⟩
                  go_simp
                  with_reducible rfl
                try simp only [Act.put, List.setIfInBounds_toArray, List.set_cons_zero, List.set_cons_succ]
              refine lexU_op rfl rfl rfl (fun K hK => ?_)
              go_simp
              have hr3 : r3.length ≤ N := by have := nextT_len HQ2.out; have := HI.out.le; omega
              refine (HP.out r3 _ hr3 (HH.out.1.quiet (Chg.refl _ _).drew) ((HH.out.2.drew).glob hp10 (HI.out.chg.glob hp10 HG.out))).mono ?_
              intro e w3 ho
              obtain ⟨q3, hq3⟩ : ∃ q3, g r3 = q3 := ⟨_, rfl⟩
              rw [hq3] at ho
              have X3 : Hid (Chg (OneP p) w2 w3) := Lib.hid ((Chg.refl (OneP p) w2).drew.trans ho.1 (fun _ h => .inl h))
              have X30 : Hid (Chg (OneP p) w w3) := Lib.hid ((HI.out.chg.trans HH.out.2 (fun _ h => .inl h)).trans X3.out (fun _ h => .inl h))
              have HPI : Hid (pick k ops r2 = some (o, r3)) := Lib.hid (by rw [HJ.out, HDD.out, pick_cons_yes HQ2.out])
              obtain ⟨n', rfl⟩ : ∃ n', n = n' + 1 := ⟨n - 1, by have := HI.out.lt; omega⟩
              rcases q3 with _ | ⟨y, r4⟩
              · obtain ⟨_, rfl⟩ := ho
                exact ⟨rfl, POut.no (by rw [HI.out.go rfl, chainL_bad HPI.out hq3]) X30.out⟩
              · obtain ⟨_, E4, rfl, hy, hpar4⟩ := ho
                have HQ3 := Lib.hid hq3
                have TY := Lib.hid hy
                have PR4 := Lib.hid hpar4
                clear hq3 hy hpar4
                refine hK _ _ (fun _ => HS.out w3 X3.out) ?_
                clear hK K
                try simp only [Act.put, List.setIfInBounds_toArray, List.set_cons_zero, List.set_cons_succ]
                refine lexU_op rfl rfl rfl (fun K hK => ?_)
                go_simp
                have XA : Hid (Chg NoB w3 (w3.alloc (.cells #[.int .i64 E2.k, .int .i64 E2.vk, .int .i64 E2.vn, sv E2.vs, sv E2.t, sv E2.n, .int .i64 E2.s, .slice E2.ao E2.m E2.c, .int .i64 E4.k, .int .i64 E4.vk, .int .i64 E4.vn, sv E4.vs, sv E4.t, sv E4.n, .int .i64 E4.s, .slice E4.ao E4.m E4.c] 29))) := Lib.hid ((Chg.refl _ _).alloc _)
                refine hK _ _ (fun _ => HS.out _ (X3.out.trans XA.out (fun _ h => h.elim))) ?_
                clear hK K
                try simp only [Act.put, List.setIfInBounds_toArray, List.set_cons_zero, List.set_cons_succ]
                refine lexU_op rfl rfl rfl (fun K hK => ?_)
                go_simp
                refine (node_any _ _ _ _ _).mono ?_
                rintro e w5 ⟨rfl, x5⟩
                have X5 : Hid (Chg NoB w3 w5) := Lib.hid (XA.out.trans x5 (fun _ h => h.elim))
                have B5 : Hid (w5.heap[w3.heap.size]? = some (.cells #[.int .i64 E2.k, .int .i64 E2.vk, .int .i64 E2.vn, sv E2.vs, sv E2.t, sv E2.n, .int .i64 E2.s, .slice E2.ao E2.m E2.c, .int .i64 E4.k, .int .i64 E4.vk, .int .i64 E4.vn, sv E4.vs, sv E4.t, sv E4.n, .int .i64 E4.s, .slice E4.ao E4.m E4.c] 29 (0, 0))) := Lib.hid (x5.heap hal_new (fun h => h))
                clear x5
                have X25 : Hid (Chg (OneP p) w2 w5) := Lib.hid (X3.out.trans X5.out (fun _ h => h.elim))
                have X05 : Hid (Chg (OneP p) w w5) := Lib.hid (X30.out.trans X5.out (fun _ h => h.elim))
                refine hK _ _ (fun _ => HS.out _ X25.out) ?_
                clear hK K
                try simp only [Act.put, List.setIfInBounds_toArray, List.set_cons_zero, List.set_cons_succ]
                have XB5 : Hid (w5.heap[w1.heap.size]? = some E2.obj) := Lib.hid (X25.out.heap (HH.out.2.heap HI.out.blk (by have := hpl; omega)) (by omega))
                obtain ⟨g0, g1, g2, g3, g4, g5, g6, g7⟩ := ExCells.of XB5.out
                have fg : ∀ o, w5.frozen? ⟨w1.heap.size, o, none⟩ = false := fun o => frozen_of_row w5 _ o _ _ XB5.out
                refine lexU_op rfl rfl rfl (fun K hK => ?_)
                go_simp
                refine hK _ _ (fun h => by cases h) ?_
                clear hK K
                try simp only [Act.put, List.setIfInBounds_toArray, List.set_cons_zero, List.set_cons_succ]
                refine lexU_op rfl rfl rfl (fun K hK => ?_)
                go_simp
                refine hK _ _ (fun h => by cases h) ?_
                clear hK K
                try simp only [Act.put, List.setIfInBounds_toArray, List.set_cons_zero, List.set_cons_succ]
                refine lexU_nil ?_
                go_wp2
                have hz2 := (HI.out.chg.trans HH.out.2 (fun _ h => .inl h)).size
                have hzb := lt_of_heap HI.out.blk
                have hz3 := X3.out.size
                have hzr := HH.out.2.size
                have hl4 := HLen.out _ _ _ HQ3.out
                have hl3 := nextT_len HQ2.out
                have hl2 := HI.out.lt
                have hzs := lt_of_heap Z1.out
                have hpz : ¬ OneP p w.heap.size := by unfold OneP; omega
                have hX := chg_set8 (Chg.refl (OneP w1.heap.size) w5) (.inl rfl) (.int .i64 o) (.int .i64 0) (.int .i64 0) (sv []) (sv []) (sv []) (.int .i64 0) (.slice (some ⟨w3.heap.size, 0, none⟩) 2 2)
                have hfin : ChInv g k ops ts p tb w1.heap.size N n' (.bin o x2 y) r4 ⟨o, 0, 0, [], [], [], 0, some ⟨w3.heap.size, 0, none⟩, 2, 2⟩ true w _ := ⟨ex_set XB5.out ⟨o, 0, 0, [], [], [], 0, some ⟨w3.heap.size, 0, none⟩, 2, 2⟩,
                  ⟨w3.heap.size, 2, E2, E4, rfl, Nat.lt_of_lt_of_le (lt_of_heap B5.out) hX.size, ⟨by omega, by omega⟩, range_block (hX.heap B5.out (by unfold OneP; omega)),
                    ExAt.chg hX (fun q h e => h.2 e) _ _ (ExAt.chg X25.out (fun q h e => by unfold OneP at e; omega) _ _ (ExAt.chg HH.out.2 (fun q h e => by unfold OneP at e; omega) _ _ HI.out.tree)),
                    ExAt.chg hX (fun q h e => h.2 e) _ _ (ExAt.quiet X5.out (TY.out.mono (fun q h _ => ⟨by simp at h; omega, by simp at h; omega⟩)))⟩,
                  (PR4.out.quiet X5.out).chg hX (by unfold OneP; omega) (by unfold OneP; omega), hX.heap (X25.out.heap (HH.out.2.heap HI.out.zero hpz) hpz) (by unfold OneP; omega),
                  X05.out.trans hX (fun q h => .inr (by unfold OneP at h; omega)), by omega, by omega, (fun _ => by rw [HI.out.go rfl, chainL_go HPI.out HQ3.out]), (fun h => by cases h)⟩
                have e1 := hfin.par.len
                have e2 := HI.out.par.len
                refine ⟨⟨true, n', _, _, _, rfl, Lib.hid hfin⟩, ?_⟩
                rw [if_pos (by rfl), if_pos (by rfl)]
                exact Nat.succ_lt_succ (by refine Nat.lt_of_le_of_lt (Nat.le_of_eq e1) ?_; rw [e2]; omega)
          · have HPK : Hid (pick k ops r2 = none) := Lib.hid (by rw [HJ.out, List.drop_of_length_le (by omega)]; rfl)
            go_wp2
            obtain ⟨n', rfl⟩ : ∃ n', n = n' + 1 := ⟨n - 1, by have := HI.out.lt; omega⟩
            exact ⟨⟨false, n' + 1, x2, r2, E2, rfl, Lib.hid ⟨HI.out.blk, HI.out.tree, HI.out.par, HI.out.zero, HI.out.chg, HI.out.lt, HI.out.le, (fun h => by cases h), (fun _ => by rw [HI.out.go rfl, chainL_stop HPK.out])⟩⟩, by simp [boolOf]⟩
end Go.Proofs.YtnbckfkdmkbopaaGreatDoor
