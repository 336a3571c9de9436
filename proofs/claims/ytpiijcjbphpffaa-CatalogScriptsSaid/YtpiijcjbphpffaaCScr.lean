/-
  The walk of CatalogScripts: it returns true, for every script. Condition: the script reads as it came in.
-/
import Derived.Test.YtpiijcjbphpffaaCStep
import Derived.Test.YtpiijcjbphpffaaCRowsU
import Derived.Test.YtpiijcjbphpffaaCClone
import Derived.Test.YtpiijcjbphpffaaCRRows
import Derived.Test.YtpiijcjbphpffaaCReadW
import Derived.Test.YtpiijcjbphpffaaCBack
import Derived.Deep.CutBlock
set_option autoImplicit false
namespace Go.Proofs.Ytpiijcjbphpffaa
open Go Go.RowKit
attribute [local go_sem] field_tab0 field_tab1

theorem third_of (O : Int) : ∃ m : Nat, wrap64 ((IntKind.u64.wrap O).tmod 3) = m ∧ m < 3 := by
  have h : IntKind.u64.wrap O = O % 18446744073709551616 := by simp [IntKind.wrap, IntKind.bits, IntKind.signed]
  have h2 : (IntKind.u64.wrap O).tmod 3 = (O % 18446744073709551616) % 3 := by rw [h, Int.tmod_eq_emod_of_nonneg (by omega)]
  rw [h2]
  refine ⟨((O % 18446744073709551616) % 3).toNat, ?_, by omega⟩
  unfold wrap64
  omega
theorem OpsAt.all {w : World} {F : Nat → Prop} {ops : List OpR} {ao : Option Addr} {cap : Nat} (h : OpsAt w F (.slice ao ops.length cap) ops) {i : Nat} {x : OpR} (hi : ops[i]? = some x) :
    ∃ b o a1 k1, ao = some ⟨b, o, none⟩ ∧ b < w.heap.size ∧ F b ∧ w.cell? ⟨b, o + i * 8, none⟩ = some (.int .i64 x.kind) ∧ w.cell? ⟨b, o + i * 8 + 1, none⟩ = some (.int .i64 x.on) ∧ w.cell? ⟨b, o + i * 8 + 2, none⟩ = some (.string x.tn) ∧ w.cell? ⟨b, o + i * 8 + 3, none⟩ = some (.slice a1 x.cols.length k1) ∧ ColsAt w F (.slice a1 x.cols.length k1) x.cols ∧
      w.cell? ⟨b, o + i * 8 + 4, none⟩ = some (.string x.n) ∧ w.cell? ⟨b, o + i * 8 + 5, none⟩ = some (.string x.of_) ∧ w.cell? ⟨b, o + i * 8 + 6, none⟩ = some (.string x.c) ∧ w.cell? ⟨b, o + i * 8 + 7, none⟩ = some (.bool x.h) := by
  obtain ⟨us, h1, h2, ao', cap', hv', hp⟩ := h
  simp only [Value.slice.injEq] at hv'
  obtain ⟨rfl, _, rfl⟩ := hv'
  have hlt := (List.getElem?_eq_some_iff.1 hi).1
  obtain ⟨b, o, rfl, hb, hf, hr⟩ := hp (by omega)
  obtain ⟨u, hu⟩ : ∃ u, us[i]? = some u := ⟨_, List.getElem?_eq_getElem (by omega)⟩
  obtain ⟨a1, k1, rfl, hq⟩ := h2 i x u hi hu
  have hz : (ops.zip us)[i]? = some (x, .slice a1 x.cols.length k1) := by
    rw [List.getElem?_zip_eq_some]
    exact ⟨hi, hu⟩
  have he := range_elem (f := fun p : OpR × Value => p.1.cells p.2) (s := 8) hr (fun _ => rfl) hz
  exact ⟨b, o, a1, k1, rfl, hb, hf, he 0 _ rfl, he 1 _ rfl, he 2 _ rfl, he 3 _ rfl, ⟨a1, k1, rfl, hq⟩, he 4 _ rfl, he 5 _ rfl, he 6 _ rfl, he 7 _ rfl⟩
theorem tabs_one {w : World} {K : Nat → Prop} {ts : List Tab} {us : List Value} (h : ColsEach w K ts us) : ∀ u ∈ tabCells ts us, u.oneCell' = true := by
  intro u hu
  obtain ⟨p, hp, hu⟩ := List.mem_flatMap.1 hu
  obtain ⟨i, hi, rfl⟩ := List.getElem_of_mem hp
  have h1 : i < ts.length := by simp at hi; omega
  have h2 : i < us.length := by simp at hi; omega
  obtain ⟨ao, cap, he, _⟩ := h.2 i _ _ (List.getElem?_eq_getElem h1) (List.getElem?_eq_getElem h2)
  simp only [List.getElem_zip, List.mem_cons, List.not_mem_nil, or_false] at hu
  rcases hu with rfl | rfl
  · rfl
  · rw [he]; rfl
theorem arr3_same {f : Nat → Value} {k : Nat} (hk : k < 3) : (#[f 0, f 1, f 2] : Array Value).setIfInBounds k (f k) = #[f 0, f 1, f 2] := by
  match k, hk with
  | 0, _ => rfl
  | 1, _ => rfl
  | 2, _ => rfl
theorem rows_two {C : Cat} (h : C.ok) {row : List Val} (hr : row ∈ C.rows) : 2 ≤ row.length := by
  unfold Cat.rows at hr
  rcases List.mem_append.1 hr with hr | hr
  · obtain ⟨t, _, rfl⟩ := List.mem_map.1 hr
    unfold tabRow
    simp
  · obtain ⟨t, _, hr⟩ := List.mem_flatMap.1 hr
    obtain ⟨x, _, rfl⟩ := List.mem_map.1 hr
    show 2 ≤ 5
    omega
theorem own_block {T s : Nat} {w : World} {lo g n cap : Nat} {cells : List Value} (h : Own T s w lo (.slice (some ⟨g, 0, none⟩) n cap) n cells) : ∃ cur, w.heap[g]? = some (.cells cur T (0, 0)) ∧ n * s ≤ cur.size := by
  obtain ⟨cur, hc⟩ := ownsRow_heap h.row (g := g) rfl
  refine ⟨cur, hc, ?_⟩
  by_cases h0 : n * s = 0
  · omega
  · have hl : cells.length = n * s := h.row.1
    have := h.row.cells (g := g) rfl (n * s - 1) _ (List.getElem?_eq_getElem (by omega))
    rw [Addr.add_mid] at this
    rw [cell_of_row w g (0 + (n * s - 1)) _ _ _ hc] at this
    have := (Array.getElem?_eq_some_iff.1 this).1
    omega
theorem rcat_at {W : World} {lo r : Nat} (h : W.heap[r]? = some (.cells #[.slice none 0 0, .slice none 0 0] 58 (0, 0))) (hlo : lo ≤ r) : RAt W lo r (fun _ => False) (.slice none 0 0) (.slice none 0 0) Cat.empty :=
  ⟨h, hlo, ⟨[], Own.nil _ _ _ _, rfl, fun i t u ht _ => by simp [Cat.empty] at ht⟩, Own.nil _ _ _ _, by simp [Value.ownBlock], by simp [Value.ownBlock], fun g hg => by simp [Value.ownBlock] at hg, fun g hg => hg.elim, fun g hg => hg.elim, Cat.empty_ok⟩
theorem rf_nil {r g : Nat} (h : RF r (.slice none 0 0) (.slice none 0 0) g) : g = r := by
  rcases h with h | h | h
  · exact h
  · simp [Value.ownBlock] at h
  · simp [Value.ownBlock] at h
def initC (a b d g : Nat) : Nat := if g < a then 0 else if g < b then 1 else if g < d then 2 else if g = d then 8 else if g = d + 1 then 4 else if g = d + 2 then 5 else if g = d + 3 then 9 else 0
theorem st_init {w w1 w2 w3 : World} {r0 r1 : Nat} (x1 : Chg (fun _ => False) w w1) (h0 : CatAt w2 r0 (Ext (fun _ => False) w1 w2) Cat.empty) (x2 : Chg (fun _ => False) w1 w2) (h1 : CatAt w3 r1 (Ext (fun _ => False) w2 w3) Cat.empty) (x3 : Chg (fun _ => False) w2 w3) :
    ∃ c hv wv o, St w ((((w3.alloc (.cells #[.pointer (some ⟨r0, 0, none⟩), .pointer (some ⟨r1, 0, none⟩), .pointer none] 56)).alloc (.cells #[.slice none 0 0, .slice none 0 0] 58)).alloc (.cells #[.slice none 0 0, .slice none 0 0] 58)).alloc (.cells #[.pointer (some ⟨w3.heap.size + 1, 0, none⟩), .pointer (some ⟨w3.heap.size + 1 + 1, 0, none⟩), .pointer none] 59)) c w3.heap.size (w3.heap.size + 1 + 1 + 1) hv wv o := by
  have s1 := x1.size
  have s2 := x2.size
  have s3 := x3.size
  obtain ⟨W, hW⟩ : ∃ W, W = ((((w3.alloc (.cells #[.pointer (some ⟨r0, 0, none⟩), .pointer (some ⟨r1, 0, none⟩), .pointer none] 56)).alloc (.cells #[.slice none 0 0, .slice none 0 0] 58)).alloc (.cells #[.slice none 0 0, .slice none 0 0] 58)).alloc (.cells #[.pointer (some ⟨w3.heap.size + 1, 0, none⟩), .pointer (some ⟨w3.heap.size + 1 + 1, 0, none⟩), .pointer none] 59)) := ⟨_, rfl⟩
  rw [← hW]
  have xW : Chg (fun _ => False) w3 W := by subst hW; exact ((((Chg.refl _ _).alloc _).alloc _).alloc _).alloc _
  have zW : W.heap.size = w3.heap.size + 4 := by subst hW; simp
  have b0 : W.heap[w3.heap.size]? = some (.cells #[.pointer (some ⟨r0, 0, none⟩), .pointer (some ⟨r1, 0, none⟩), .pointer none] 56 (0, 0)) := by subst hW; rw [hal_old (by simp <;> omega), hal_old (by simp <;> omega), hal_old (by simp <;> omega), hal_new]
  have b1 : W.heap[w3.heap.size + 1]? = some (.cells #[.slice none 0 0, .slice none 0 0] 58 (0, 0)) := by subst hW; rw [hal_old (by simp <;> omega), hal_old (by simp <;> omega), hal_new' (by simp)]
  have b2 : W.heap[w3.heap.size + 2]? = some (.cells #[.slice none 0 0, .slice none 0 0] 58 (0, 0)) := by subst hW; rw [hal_old (by simp), hal_new' (by simp)]
  have b3 : W.heap[w3.heap.size + 3]? = some (.cells #[.pointer (some ⟨w3.heap.size + 1, 0, none⟩), .pointer (some ⟨w3.heap.size + 1 + 1, 0, none⟩), .pointer none] 59 (0, 0)) := by subst hW; rw [hal_new' (by simp)]
  clear hW
  have iC : ∀ g, initC w1.heap.size w2.heap.size w3.heap.size g = 0 ∨ (w1.heap.size ≤ g ∧ g < w3.heap.size + 4) := fun g => by
    unfold initC
    repeat' split
    all_goals first | exact .inl rfl | (right; omega)
  refine ⟨initC w1.heap.size w2.heap.size w3.heap.size, fun j => if j = 0 then .pointer (some ⟨r0, 0, none⟩) else if j = 1 then .pointer (some ⟨r1, 0, none⟩) else .pointer none, fun j => if j = 0 then .pointer (some ⟨w3.heap.size + 1, 0, none⟩) else if j = 1 then .pointer (some ⟨w3.heap.size + 1 + 1, 0, none⟩) else .pointer none, fun j => if j < 2 then some Cat.empty else none, b0, b3, ?_, ?_, fun k hk => ?_, fun g hg => ?_, (x1.trans x2 (fun _ h => h.elim)).trans (x3.trans xW (fun _ h => h.elim)) (fun _ h => h.elim)⟩
  · unfold initC
    rw [if_neg (by omega), if_neg (by omega), if_neg (by omega), if_pos rfl]
  · unfold initC
    rw [if_neg (by omega), if_neg (by omega), if_neg (by omega), if_neg (by omega), if_neg (by omega), if_neg (by omega), if_pos rfl]
  · match k, hk with
    | 0, _ =>
      refine ⟨bud_empty, r0, w3.heap.size + 1, _, _, fun _ => False, Cat.empty, rfl, rfl, ?_, Like.refl _, rcat_at b1 (by omega), fun g hg => ?_, fun g hg => hg.elim⟩
      · refine ((h0.quiet x3).quiet xW).mono (fun g hg _ => ?_)
        rcases hg with hg | hg
        · exact hg.elim
        · show initC _ _ _ g = 1
          unfold initC
          rw [if_neg (by omega), if_pos hg.2]
      · obtain rfl := rf_nil hg
        unfold initC
        rw [if_neg (by omega), if_neg (by omega), if_neg (by omega), if_neg (by omega), if_pos rfl]
    | 1, _ =>
      refine ⟨bud_empty, r1, w3.heap.size + 1 + 1, _, _, fun _ => False, Cat.empty, rfl, rfl, ?_, Like.refl _, rcat_at b2 (by omega), fun g hg => ?_, fun g hg => hg.elim⟩
      · refine (h1.quiet xW).mono (fun g hg _ => ?_)
        rcases hg with hg | hg
        · exact hg.elim
        · show initC _ _ _ g = 2
          unfold initC
          rw [if_neg (by omega), if_neg (by omega), if_pos hg.2]
      · obtain rfl := rf_nil hg
        unfold initC
        rw [if_neg (by omega), if_neg (by omega), if_neg (by omega), if_neg (by omega), if_neg (by omega), if_pos rfl]
    | 2, _ => exact ⟨rfl, rfl⟩
  · rcases iC g with h | h
    · exact absurd h hg
    · omega
set_option maxRecDepth 100000 in
set_option maxHeartbeats 4000000 in
theorem scripts_any (v : Value) (ops : List OpR) (w : World) (h : OpsAt w (fun b => b < w.heap.size) v ops) (hok : ∀ o ∈ ops, o.ok) (hlen : ops.length ≤ 9223372036854775807) (hcl : ∀ o ∈ ops, o.cols.length ≤ 4400000000000) :
    Calls Try.prog 7 #[v] w fun e w' => e = .returned (.bool true) ∧ Chg (fun _ => False) w w' := by
  have HO := Lib.hid h; have HK := Lib.hid hok; have HCL := Lib.hid hcl
  obtain ⟨us, hus, _, ao, cap, rfl, _⟩ := h
  clear hus hok hcl
  go_enter Try.func7, Try.ntmps7
  go_wp2_with fail
  refine (awake_any w).mono ?_
  rintro e w1 ⟨rfl, x1⟩
  have X1 := Lib.hid x1
  clear x1
  go_wp2_with fail
  refine (cnew_any w1).mono ?_
  rintro e w2 ⟨r0, rfl, h0, x2⟩
  have H0 := Lib.hid h0; have X2 := Lib.hid x2
  clear h0 x2
  go_wp2_with fail
  refine (cnew_any w2).mono ?_
  rintro e w3 ⟨r1, rfl, h1, x3⟩
  have H1 := Lib.hid h1; have X3 := Lib.hid x3
  clear h1 x3
  go_wp2
  obtain ⟨c0, hv0, wv0, o0, hst0⟩ := st_init X1.out H0.out X2.out H1.out X3.out
  have ST0 := Lib.hid hst0
  obtain ⟨hb, hhb⟩ : ∃ hb, hb = w3.heap.size := ⟨_, rfl⟩
  obtain ⟨wb, hwb⟩ : ∃ wb, wb = w3.heap.size + 1 + 1 + 1 := ⟨_, rfl⟩
  obtain ⟨W0, hW0⟩ : ∃ W0, W0 = ((((w3.alloc (.cells #[.pointer (some ⟨r0, 0, none⟩), .pointer (some ⟨r1, 0, none⟩), .pointer none] 56)).alloc (.cells #[.slice none 0 0, .slice none 0 0] 58)).alloc (.cells #[.slice none 0 0, .slice none 0 0] 58)).alloc (.cells #[.pointer (some ⟨w3.heap.size + 1, 0, none⟩), .pointer (some ⟨w3.heap.size + 1 + 1, 0, none⟩), .pointer none] 59)) := ⟨_, rfl⟩
  rw [← hW0, ← hwb, ← hhb]
  rw [← hW0, ← hwb, ← hhb] at ST0
  clear hst0 hW0 hwb hhb
  go_loopw [5] (fun s wr => ∃ (i : Nat) (c : Nat → Nat) (hv wv : Nat → Value) (o : Nat → Option Cat), i ≤ ops.length ∧ s = .int .i64 i ∧ Hid (St w wr c hb wb hv wv o)) (fun s _ => ops.length - (intOf s).toNat)
  case atStart => exact ⟨0, c0, hv0, wv0, o0, Nat.zero_le _, rfl, ST0⟩
  case round =>
    clear ST0
    obtain ⟨i, c, hv, wv, o, hi, rfl, ST⟩ := hrel
    by_cases hlt : i < ops.length
    · obtain ⟨x, hx⟩ : ∃ x, ops[i]? = some x := ⟨_, List.getElem?_eq_getElem hlt⟩
      obtain ⟨bo, oo, a1, k1, rfl, hbo, _, p0, p1, p2, p3, pc, p4, p5, p6, p7⟩ := OpsAt.all (HO.out.chg ST.out.chg (fun _ _ h => h)) hx
      have hxo := HK.out x (List.mem_of_getElem? hx)
      obtain ⟨hx1, hx2, hx3, hx4⟩ := hxo
      have PC := Lib.hid pc; have HXB := Lib.hid hx3
      obtain ⟨m, hm, hm3⟩ := third_of x.on
      have hx0 := Lib.hid hx
      clear hx pc hx3
      have hcl := HCL.out x (List.mem_of_getElem? hx0.out)
      go_upto_block 2 with (fail)
      obtain ⟨W8, hW8⟩ : ∃ W8, W8 = wr.alloc (.cells #[.int .i64 x.kind, .int .i64 x.on, .string x.tn, .slice a1 x.cols.length k1, .string x.n, .string x.of_, .string x.c, .bool x.h] 52) := ⟨_, rfl⟩
      rw [← hW8, hm]
      have x8 : Chg (fun _ => False) wr W8 := by subst hW8; exact (Chg.refl _ _).alloc _
      have B8 : Hid (W8.heap[wr.heap.size]? = some (.cells #[.int .i64 x.kind, .int .i64 x.on, .string x.tn, .slice a1 x.cols.length k1, .string x.n, .string x.of_, .string x.c, .bool x.h] 52 (0, 0))) := Lib.hid (by subst hW8; exact hal_new)
      obtain ⟨tb, htb⟩ : ∃ tb, tb = wr.heap.size := ⟨_, rfl⟩
      rw [← htb]
      rw [← htb] at B8
      have S8 := Lib.hid (ST.out.quiet x8)
      have HC0 := Lib.hid (show ∀ g, tb ≤ g → c g = 0 from fun g hg => by
        cases hh : c g with
        | zero => rfl
        | succ q => have := (ST.out.lo g (by omega)).2; omega)
      have PC8 := Lib.hid (RowAt.quiet PC.out x8)
      have HTB := Lib.hid (show w.heap.size ≤ tb by rw [htb]; exact ST.out.chg.size)
      have hbt : tb < W8.heap.size := lt_of_heap B8.out
      clear hW8 x8 htb hm p0 p1 p2 p3 p4 p5 p6 p7
      go_cut [8, 9] (fun s8 s9 wx => ∃ (a : Int) (c' : Nat → Nat) (hv' wv' : Nat → Value) (o' : Nat → Option Cat), s8 = .int .i64 a ∧ s9 = .int .i64 a ∧ St w wx c' hb wb hv' wv' o')
      case first =>
        clear ST PC
        have e0 := cell_of_row W8 tb 0 _ _ _ B8.out
        have e3 := cell_of_row W8 tb 3 _ _ _ B8.out
        cases h1 : x.kind == 1 with
        | true =>
         as_aux_lemma =>
          have HO0 : Hid (Own 30 4 (W8.alloc (.cells #[] 30)) W8.heap.size (.slice (some ⟨W8.heap.size, 0, none⟩) 0 0) 0 []) := Lib.hid ⟨World.ownsRow_made W8 #[] 0 (Nat.zero_le _) (Nat.zero_le _) (by simp), fun g hg => by simp [Value.ownBlock] at hg; omega⟩
          have PCA := Lib.hid (RowAt.quiet PC8.out ((Chg.refl (fun _ => False) W8).alloc (.cells #[] 30)))
          go_wp2_with (at_builtin; refine own_app col_ok rfl _ _ rfl W8.heap.size _ 0 [] rfl HO0.out _ _ x.cols.length (colCells x.cols) rfl PCA.out (colCells_len _) (colCells_one _) ?_ ?_ ?_ ?_)
          · unfold maxLen; omega
          · omega
          · simp
          · intro vc w9 r9 x9 hat9
            obtain ⟨co, ccap, rfl, _⟩ := r9.form
            have hco : 0 < x.cols.length → ∃ g, co = some ⟨g, 0, none⟩ ∧ W8.heap.size ≤ g := fun hp => by
              obtain ⟨ao', c', he, hq⟩ := r9.form
              simp only [Value.slice.injEq] at he
              obtain ⟨rfl, _, rfl⟩ := he
              exact hq hp
            have X9 := Lib.hid (((Chg.refl (fun _ => False) W8).alloc (.cells #[] 30)).trans x9 (fun g hg => .inr (by simp [Value.ownBlock] at hg; omega)))
            have S9 := Lib.hid (S8.out.quiet X9.out); have B9 := Lib.hid (X9.out.heap B8.out (fun h => h))
            have R9 := Lib.hid r9; have HCG := Lib.hid hco
            have PC9 := Lib.hid (RowAt.quiet PC8.out X9.out)
            clear r9 x9 hat9 hco e0 e3
            go_wp2
            have h3 : (m : Int) < 3 := by omega
            have hS : ∀ W, Chg (fun g => c g ≠ 0 ∧ c g ≠ 8 ∧ c g ≠ 9) w9 W → (W.cell? ⟨hb, m, none⟩ = some (hv m) ∧ W.cell? ⟨tb, 2, none⟩ = some (.string x.tn)) ∧ (W.cell? ⟨wb, m, none⟩ = some (wv m) ∧ W.cell? ⟨tb, 3, none⟩ = some (.slice a1 x.cols.length k1)) := fun W hW => by
              have q := S9.out.cells hm3
              have k1 := hW.keep hb (lt_of_heap S9.out.hcell) (fun h => by have := S9.out.chb; omega)
              have k2 := hW.keep wb (lt_of_heap S9.out.wcell) (fun h => by have := S9.out.cwb; omega)
              have k3 := hW.heap B9.out (fun h => h.1 (HC0.out tb (Nat.le_refl _)))
              exact ⟨⟨(cell_of_heap k1).trans q.1, cell_of_row W tb 2 _ _ _ k3⟩, (cell_of_heap k2).trans q.2, cell_of_row W tb 3 _ _ _ k3⟩
            have HS := Lib.hid hS
            clear hS
            refine wp_region_lex (fun W => W.cell? ⟨hb, m, none⟩ = some (hv m) ∧ W.cell? ⟨tb, 2, none⟩ = some (.string x.tn)) 9 [8, 9] [0, 1, 2, 3, 4, 5, 6, 7, 8, 9] (by kernel_rfl) (by kernel_rfl) (HS.out _ (Chg.refl _ _).drew).1 ?_
            iterate 8
              refine' lex_free (v := _) rfl rfl rfl ?_ (fun _ _ _ h => h) ?_
              rotate_left
              · rintro W ⟨hW1, hW2⟩
                go_simp
                with_reducible rfl
              try simp only [Act.put, List.setIfInBounds_toArray, List.set_cons_zero, List.set_cons_succ]
            refine lex_op rfl rfl rfl (fun K hK => ?_)
            go_simp
            refine (St.addT1 (S9.out.quiet (Chg.refl _ _).drew) hm3 ⟨x.tn, x.cols⟩ _ _ (RowAt.quiet R9.out.read (Chg.refl _ _).drew) hx1 hx2 HXB.out).mono ?_
            rintro e w10 ⟨rfl, m10⟩
            have M10 := Lib.hid m10
            have X10 := Lib.hid (((Chg.refl (fun g => c g = m + 1 ∧ g < w9.heap.size) w9).drew).trans m10.chg (fun g hg => .inl hg))
            have T10 := Lib.hid (HS.out w10 (X10.out.mono (fun g hg => .inl (by omega))))
            clear m10
            refine hK _ _ (fun _ => T10.out.1) ?_
            clear hK K
            try simp only [Act.put, List.setIfInBounds_toArray, List.set_cons_zero, List.set_cons_succ]
            refine lex_op rfl rfl rfl (fun K hK => ?_)
            go_simp
            refine hK _ _ (fun h => absurd rfl h) ?_
            clear hK K
            try simp only [Act.put, List.setIfInBounds_toArray, List.set_cons_zero, List.set_cons_succ]
            refine lex_nil ?_
            go_wp2
            have hS2 : ∀ W, Chg (fun _ => False) w10 W → (W.cell? ⟨wb, m, none⟩ = some (wv m) ∧ W.cell? ⟨tb, 2, none⟩ = some (.string x.tn) ∧ W.cell? ⟨tb, 3, none⟩ = some (.slice a1 x.cols.length k1)) := fun W hW => by
              have := HS.out W ((X10.out.mono (G := fun g => c g ≠ 0 ∧ c g ≠ 8 ∧ c g ≠ 9) (fun g hg => .inl (by omega))).trans hW (fun _ h => h.elim))
              exact ⟨this.2.1, this.1.2, this.2.2⟩
            have HS2 := Lib.hid hS2
            clear hS2
            refine wp_region_lex (fun W => W.cell? ⟨wb, m, none⟩ = some (wv m) ∧ W.cell? ⟨tb, 2, none⟩ = some (.string x.tn) ∧ W.cell? ⟨tb, 3, none⟩ = some (.slice a1 x.cols.length k1)) 6 [5, 6] [0, 1, 2, 3, 4, 5, 6] (by kernel_rfl) (by kernel_rfl) (HS2.out _ (Chg.refl _ _).drew) ?_
            iterate 5
              refine' lex_free (v := _) rfl rfl rfl ?_ (fun _ _ _ h => h) ?_
              rotate_left
              · rintro W ⟨hW1, hW2, hW3⟩
                go_simp
                with_reducible rfl
              try simp only [Act.put, List.setIfInBounds_toArray, List.set_cons_zero, List.set_cons_succ]
            refine lex_op rfl rfl rfl (fun K hK => ?_)
            go_simp
            refine (St.addT2 (w1' := w10.drew) (S9.out.quiet (Chg.refl _ _).drew) hm3 ⟨x.tn, x.cols⟩ _ _ (RowAt.chg (F := fun b => b < w.heap.size) PC9.out X10.out.drew (fun g hg h => by have h5 := S9.out.lo g (by omega); omega)) hx1 hx2 HXB.out M10.out (Chg.refl _ _).drew).mono ?_
            rintro e w11 ⟨rfl, c', s11, hc', x11⟩
            have S11 := Lib.hid s11; have HC' := Lib.hid hc'
            have X11 := Lib.hid ((Chg.refl (fun g => c g ≠ 0 ∧ c g ≠ 8 ∧ c g ≠ 9) w9).drew.trans x11 (fun g hg => .inl hg))
            have T11 := HS.out w11 X11.out
            clear s11 hc' x11
            refine hK _ _ (fun _ => ⟨T11.2.1, T11.1.2, T11.2.2⟩) ?_
            clear hK K
            try simp only [Act.put, List.setIfInBounds_toArray, List.set_cons_zero, List.set_cons_succ]
            clear T11
            refine lex_op rfl rfl rfl (fun K hK => ?_)
            go_simp
            refine hK _ _ (fun h => absurd rfl h) ?_
            clear hK K
            try simp only [Act.put, List.setIfInBounds_toArray, List.set_cons_zero, List.set_cons_succ]
            refine lex_nil ?_
            go_wp2
            go_loopw [11] (fun s wq => ∃ j : Nat, j ≤ x.cols.length ∧ s = .int .i64 j ∧ Hid (∀ g, co = some ⟨g, 0, none⟩ → ∃ cur, wq.heap[g]? = some (.cells cur 30 (0, 0)) ∧ x.cols.length * 4 ≤ cur.size) ∧ Hid (Chg (fun g => co = some ⟨g, 0, none⟩) w11 wq)) (fun s _ => x.cols.length - (intOf s).toNat)
            case atStart =>
              refine ⟨0, Nat.zero_le _, rfl, Lib.hid (fun g hg => ?_), Lib.hid (Chg.refl _ _)⟩
              subst hg
              obtain ⟨cur, h1, h2⟩ := own_block R9.out
              exact ⟨cur, X11.out.heap h1 (fun h => h.1 (HC0.out g (by have := R9.out.lo g rfl; omega))), h2⟩
            case round =>
              obtain ⟨j, hj, rfl, HQ, HXQ⟩ := hrel
              by_cases hjn : j < x.cols.length
              · obtain ⟨g, rfl, hg8⟩ := HCG.out (by omega)
                obtain ⟨cur, hcur, hcs⟩ := HQ.out g rfl
                have hu : cur[j * 4]? = some (cur[j * 4]'(by omega)) := Array.getElem?_eq_getElem (by omega)
                have m0 := cell_of_row wr g (j * 4) _ _ _ hcur
                rw [hu] at m0
                have f0 := frozen_of_row wr g (j * 4) _ _ hcur
                have HCU := Lib.hid hcur
                have hgl := lt_of_heap hcur
                clear hcur hu
                go_wp2
                go_roundw
                case rel =>
                  refine ⟨j + 1, by omega, by go_num, Lib.hid (fun g' hg' => ?_), Lib.hid (HXQ.out.setCell (p := ⟨g, j * 4, none⟩) (.inl rfl) _)⟩
                  simp only [Option.some.injEq, Addr.mk.injEq] at hg'
                  obtain ⟨rfl, _⟩ := hg'
                  exact ⟨_, hset_eq HCU.out, by simpa using hcs⟩
                case measure => simp [intOf]; omega
              · go_wp2
                go_meet
                refine ⟨_, c', hv, wv, _, rfl, rfl, S11.out.aside HXQ.out (fun g hg => ?_)⟩
                subst hg
                have h1 := R9.out.lo g rfl
                have h2 := R9.out.lt (g := g) rfl
                have h3 := HC'.out g (by show g < w9.heap.size; exact h2)
                exact ⟨by rw [h3]; exact HC0.out g (by omega), by have := HTB.out; omega⟩
        | false =>
         have K1 := Lib.hid h1
         cases h2 : x.kind == 2 with
         | true =>
          as_aux_lemma =>
           clear e3
           go_wp2
           have h3 : (m : Int) < 3 := by omega
           have hS : ∀ W, Chg (fun g => c g ≠ 0 ∧ c g ≠ 8 ∧ c g ≠ 9) W8 W → (W.cell? ⟨hb, m, none⟩ = some (hv m) ∧ W.cell? ⟨tb, 4, none⟩ = some (.string x.n) ∧ W.cell? ⟨tb, 5, none⟩ = some (.string x.of_) ∧ W.cell? ⟨tb, 6, none⟩ = some (.string x.c) ∧ W.cell? ⟨tb, 7, none⟩ = some (.bool x.h)) ∧ W.cell? ⟨wb, m, none⟩ = some (wv m) := fun W hW => by
             have q := S8.out.cells hm3
             have k1 := hW.keep hb (lt_of_heap S8.out.hcell) (fun h => by have := S8.out.chb; omega)
             have k2 := hW.keep wb (lt_of_heap S8.out.wcell) (fun h => by have := S8.out.cwb; omega)
             have k3 := hW.heap B8.out (fun h => h.1 (HC0.out tb (Nat.le_refl _)))
             exact ⟨⟨(cell_of_heap k1).trans q.1, cell_of_row W tb 4 _ _ _ k3, cell_of_row W tb 5 _ _ _ k3, cell_of_row W tb 6 _ _ _ k3, cell_of_row W tb 7 _ _ _ k3⟩, (cell_of_heap k2).trans q.2⟩
           have HS := Lib.hid hS
           clear hS
           refine wp_region_lex (fun W => W.cell? ⟨hb, m, none⟩ = some (hv m) ∧ W.cell? ⟨tb, 4, none⟩ = some (.string x.n) ∧ W.cell? ⟨tb, 5, none⟩ = some (.string x.of_) ∧ W.cell? ⟨tb, 6, none⟩ = some (.string x.c) ∧ W.cell? ⟨tb, 7, none⟩ = some (.bool x.h)) 12 [11, 12] [0, 1, 2, 3, 4, 5, 6, 7, 8, 9, 10, 11, 12] (by kernel_rfl) (by kernel_rfl) (HS.out _ (Chg.refl _ _).drew).1 ?_
           iterate 11
             refine' lex_free (v := _) rfl rfl rfl ?_ (fun _ _ _ h => h) ?_
             rotate_left
             · rintro W ⟨hW1, hW2, hW3, hW4, hW5⟩
               go_simp
               with_reducible rfl
             try simp only [Act.put, List.setIfInBounds_toArray, List.set_cons_zero, List.set_cons_succ]
           refine lex_op rfl rfl rfl (fun K hK => ?_)
           go_simp
           refine (St.addI1 (S8.out.quiet (Chg.refl _ _).drew) hm3 x.n x.of_ x.c x.h hx4).mono ?_
           rintro e w10 ⟨rfl, m10⟩
           have M10 := Lib.hid m10
           have X10 := Lib.hid (((Chg.refl (fun g => c g = m + 1 ∧ g < W8.heap.size) W8).drew).trans m10.chg (fun g hg => .inl hg))
           have T10 := Lib.hid (HS.out w10 (X10.out.mono (fun g hg => .inl (by omega))))
           clear m10
           refine hK _ _ (fun _ => T10.out.1) ?_
           clear hK K
           try simp only [Act.put, List.setIfInBounds_toArray, List.set_cons_zero, List.set_cons_succ]
           refine lex_op rfl rfl rfl (fun K hK => ?_)
           go_simp
           refine hK _ _ (fun h => absurd rfl h) ?_
           clear hK K
           try simp only [Act.put, List.setIfInBounds_toArray, List.set_cons_zero, List.set_cons_succ]
           refine lex_nil ?_
           go_wp2
           refine wp_region_lex (fun W => W.cell? ⟨wb, m, none⟩ = some (wv m) ∧ W.cell? ⟨tb, 4, none⟩ = some (.string x.n) ∧ W.cell? ⟨tb, 5, none⟩ = some (.string x.of_) ∧ W.cell? ⟨tb, 6, none⟩ = some (.string x.c) ∧ W.cell? ⟨tb, 7, none⟩ = some (.bool x.h)) 12 [11, 12] [0, 1, 2, 3, 4, 5, 6, 7, 8, 9, 10, 11, 12] (by kernel_rfl) (by kernel_rfl) ⟨T10.out.2, T10.out.1.2⟩ ?_
           iterate 11
             refine' lex_free (v := _) rfl rfl rfl ?_ (fun _ _ _ h => h) ?_
             rotate_left
             · rintro W ⟨hW1, hW2, hW3, hW4, hW5⟩
               go_simp
               with_reducible rfl
             try simp only [Act.put, List.setIfInBounds_toArray, List.set_cons_zero, List.set_cons_succ]
           refine lex_op rfl rfl rfl (fun K hK => ?_)
           go_simp
           refine (St.addI2 (w1' := w10.drew) (S8.out.quiet (Chg.refl _ _).drew) hm3 x.n x.of_ x.c x.h hx4 M10.out (Chg.refl _ _).drew).mono ?_
           rintro e w11 ⟨rfl, c', s11, x11⟩
           have S11 := Lib.hid s11
           have X11 := Lib.hid ((Chg.refl (fun g => c g ≠ 0 ∧ c g ≠ 8 ∧ c g ≠ 9) W8).drew.trans x11 (fun g hg => .inl hg))
           have T11 := HS.out w11 X11.out
           clear s11 x11
           refine hK _ _ (fun _ => ⟨T11.2, T11.1.2⟩) ?_
           clear hK K
           try simp only [Act.put, List.setIfInBounds_toArray, List.set_cons_zero, List.set_cons_succ]
           clear T11
           refine lex_op rfl rfl rfl (fun K hK => ?_)
           go_simp
           refine hK _ _ (fun h => absurd rfl h) ?_
           clear hK K
           try simp only [Act.put, List.setIfInBounds_toArray, List.set_cons_zero, List.set_cons_succ]
           refine lex_nil ?_
           go_wp2
           go_meet
           exact ⟨_, c', hv, wv, _, rfl, rfl, S11.out⟩
         | false =>
          have K2 := Lib.hid h2
          cases h3 : x.kind == 3 with
          | true =>
           as_aux_lemma =>
            have hn3 : (m + 1) % 3 < 3 := by omega
            have hne : (m + 1) % 3 ≠ m := by omega
            have hEn := S8.out.each _ hn3
            obtain ⟨qh, qw⟩ := S8.out.cells hn3
            obtain ⟨mh, mw⟩ := S8.out.cells hm3
            have fh := frozen_of_row W8 hb m _ _ S8.out.hcell
            have fw := frozen_of_row W8 wb m _ _ S8.out.wcell
            have hwh : wb ≠ hb := fun e => by have h1 := S8.out.chb; have h2 := S8.out.cwb; rw [e, h1] at h2; cases h2
            clear e3
            cases hon : o ((m + 1) % 3) with
            | none =>
              rw [hon] at hEn
              obtain ⟨e1, e2⟩ := hEn
              rw [e1] at qh
              rw [e2] at qw
              clear e1 e2 hon
              go_wp2_with fail
              refine (cclone_nil _).mono ?_
              rintro e w' ⟨rfl, rfl⟩
              go_upto_region 27 with (fail)
              obtain ⟨W9, hW9⟩ : ∃ W9, W9 = (W8.setCell ⟨hb, m, none⟩ (.pointer none)).setCell ⟨wb, m, none⟩ (.pointer none) := ⟨_, rfl⟩
              rw [← hW9]
              have X9 : Hid (Chg (fun g => g = hb ∨ g = wb) W8 W9) := Lib.hid (by subst hW9; exact ((Chg.refl (fun g => g = hb ∨ g = wb) W8).setCell (p := ⟨hb, m, none⟩) (.inl (.inl rfl)) _).setCell (p := ⟨wb, m, none⟩) (.inl (.inr rfl)) _)
              have BH : Hid (W9.heap[hb]? = some (.cells ((#[hv 0, hv 1, hv 2] : Array Value).setIfInBounds m (.pointer none)) 56 (0, 0))) := Lib.hid (by subst hW9; rw [hset_ne (fun e => hwh e.symm)]; exact hset_eq S8.out.hcell)
              have BW : Hid (W9.heap[wb]? = some (.cells ((#[wv 0, wv 1, wv 2] : Array Value).setIfInBounds m (.pointer none)) 59 (0, 0))) := Lib.hid (by subst hW9; exact hset_eq ((hset_ne hwh).trans S8.out.wcell))
              have ew : wv ((m + 1) % 3) = .pointer none := by
                have h1 := (S8.out.cells hn3).2
                rw [qw] at h1
                exact (Option.some.inj h1).symm
              have qw9 : W9.cell? ⟨wb, (m + 1) % 3, none⟩ = some (.pointer none) := by
                rw [cell_of_row W9 wb _ _ _ _ BW.out, arr3_at hm3 hn3 hne, ew]
              clear hW9 qh qw mh mw fh fw ew
              go_wp2
              go_meet
              exact ⟨0, c, _, _, _, rfl, rfl, S8.out.put2 hm3 X9.out (fun g hg => by rcases hg with h | h; exact .inl h; exact .inr (.inl h)) (fun _ _ => rfl) (fun g hg => Nat.lt_of_lt_of_le (S8.out.lo g hg).2 X9.out.size) BH.out BW.out (o' := none) ⟨rfl, rfl⟩⟩
            | some C =>
              rw [hon] at hEn
              obtain ⟨hbud, rc, rr, vt, vi, K, D, e1, e2, hcat, hlike, hrat, hRF, hK⟩ := hEn
              rw [e1] at qh
              rw [e2] at qw
              have HBU := Lib.hid hbud; have HLK := Lib.hid hlike; have HRA := Lib.hid hrat; have HRF := Lib.hid hRF; have HKK := Lib.hid hK; have HCA := Lib.hid hcat
              have EW := Lib.hid e2
              clear hbud hlike hrat hRF hK hcat e1 e2 hon
              go_wp2_with fail
              refine (cclone_any rc _ D W8 HCA.out).mono ?_
              rintro e wc1 ⟨rn, rfl, hcn, x1⟩
              have HCN := Lib.hid hcn; have XX1 := Lib.hid x1
              have S1 := Lib.hid (S8.out.quiet x1)
              clear mh mw fh fw qh qw hcn x1
              obtain ⟨mh, mw⟩ := S1.out.cells hm3
              have fh := frozen_of_row wc1 hb m _ _ S1.out.hcell
              have fw := frozen_of_row wc1 wb m _ _ S1.out.wcell
              go_upto_region 27 with (fail)
              obtain ⟨W9, hW9⟩ : ∃ W9, W9 = (wc1.setCell ⟨hb, m, none⟩ (.pointer (some ⟨rn, 0, none⟩))).setCell ⟨wb, m, none⟩ (.pointer none) := ⟨_, rfl⟩
              rw [← hW9]
              have X9 : Hid (Chg (fun g => g = hb ∨ g = wb) wc1 W9) := Lib.hid (by subst hW9; exact ((Chg.refl (fun g => g = hb ∨ g = wb) wc1).setCell (p := ⟨hb, m, none⟩) (.inl (.inl rfl)) _).setCell (p := ⟨wb, m, none⟩) (.inl (.inr rfl)) _)
              have BH : Hid (W9.heap[hb]? = some (.cells ((#[hv 0, hv 1, hv 2] : Array Value).setIfInBounds m (.pointer (some ⟨rn, 0, none⟩))) 56 (0, 0))) := Lib.hid (by subst hW9; rw [hset_ne (fun e => hwh e.symm)]; exact hset_eq S1.out.hcell)
              have BW : Hid (W9.heap[wb]? = some (.cells ((#[wv 0, wv 1, wv 2] : Array Value).setIfInBounds m (.pointer none)) 59 (0, 0))) := Lib.hid (by subst hW9; exact hset_eq ((hset_ne hwh).trans S1.out.wcell))
              have qw9 : W9.cell? ⟨wb, (m + 1) % 3, none⟩ = some (.pointer (some ⟨rr, 0, none⟩)) := by
                rw [cell_of_row W9 wb _ _ _ _ BW.out, arr3_at hm3 hn3 hne, EW.out]
              have mw9 : W9.cell? ⟨wb, m, none⟩ = some (.pointer none) := by
                rw [cell_of_row W9 wb _ _ _ _ BW.out, arr3_self hm3]
              have fw9 := frozen_of_row W9 wb m _ _ BW.out
              have hwbl : wb < W9.heap.size := lt_of_heap BW.out
              clear hW9 mh mw fh fw
              go_upto_region 29 with (fail)
              obtain ⟨d, hd⟩ : ∃ d, d = W9.heap.size := ⟨_, rfl⟩
              obtain ⟨W10, hW10⟩ : ∃ W10, W10 = (W9.setCell ⟨wb, m, none⟩ (.pointer (some ⟨W9.heap.size, 0, none⟩))).alloc (.cells #[.slice none 0 0, .slice none 0 0] 58) := ⟨_, rfl⟩
              rw [← hW10, ← hd]
              have X10 : Hid (Chg (fun g => g = hb ∨ g = wb) W9 W10) := Lib.hid (by subst hW10; exact ((Chg.refl (fun g => g = hb ∨ g = wb) W9).setCell (p := ⟨wb, m, none⟩) (.inl (.inr rfl)) _).alloc _)
              have Z10 : Hid (W10.heap.size = d + 1) := Lib.hid (by subst hW10; rw [hd]; simp [World.setCell])
              have BD : Hid (W10.heap[d]? = some (.cells #[.slice none 0 0, .slice none 0 0] 58 (0, 0))) := Lib.hid (by subst hW10; rw [hal_new' (by rw [hd]; simp [World.setCell])])
              have BH2 : Hid (W10.heap[hb]? = some (.cells ((#[hv 0, hv 1, hv 2] : Array Value).setIfInBounds m (.pointer (some ⟨rn, 0, none⟩))) 56 (0, 0))) := Lib.hid (by subst hW10; rw [hal_old (by have := lt_of_heap BH.out; simpa [World.setCell] using this), hset_ne (fun e => hwh e.symm)]; exact BH.out)
              have BW2 : Hid (W10.heap[wb]? = some (.cells ((#[wv 0, wv 1, wv 2] : Array Value).setIfInBounds m (.pointer (some ⟨d, 0, none⟩))) 59 (0, 0))) := Lib.hid (by subst hW10; rw [hal_old (by simpa [World.setCell] using hwbl), hset_eq BW.out, arr3_twice, hd])
              have HDL : Hid (wc1.heap.size ≤ d) := Lib.hid (by rw [hd]; exact X9.out.size)
              have XW : Hid (Chg (fun g => g = hb ∨ g = wb) W8 W10) := Lib.hid (((XX1.out.mono (G := fun g => g = hb ∨ g = wb) (fun _ h => h.elim)).trans X9.out (fun _ h => .inl h)).trans X10.out (fun _ h => .inl h))
              have HHB := Lib.hid (lt_of_heap S8.out.hcell); have HWBL := Lib.hid (lt_of_heap S8.out.wcell)
              have hz8 : W8.heap.size ≤ d := Nat.le_trans XX1.out.size HDL.out
              clear hW10 qw9 mw9 fw9 hwbl hd
              obtain ⟨⟨tao, tcap, rfl⟩, iao, icap, rfl⟩ := HRA.out.form
              have HR10 := Lib.hid (HRA.out.chg XW.out (fun g hg h => by
                have h1 := HRF.out g hg
                rcases h with rfl | rfl
                · have := S8.out.chb; omega
                · have := S8.out.cwb; omega) (fun g hg h => by
                have h1 := HKK.out g hg
                rcases h with rfl | rfl
                · have := S8.out.chb; omega
                · have := S8.out.cwb; omega))
              have h3 : (m : Int) < 3 := by omega
              have N0 := Lib.hid (show (0 : Int) ≤ ((m : Int) + 1) % 3 by omega)
              have N1 := Lib.hid (show ((m : Int) + 1) % 3 < (3 : Int) by omega)
              have NQ := Lib.hid (show (((m : Int) + 1) % 3).toNat = (m + 1) % 3 by omega)
              have hS : ∀ W, Chg (fun _ => False) W10 W → W.cell? ⟨wb, m, none⟩ = some (.pointer (some ⟨d, 0, none⟩)) ∧ W.cell? ⟨d, 0, none⟩ = some (.slice none 0 0) ∧ W.cell? ⟨wb, (m + 1) % 3, none⟩ = some (.pointer (some ⟨rr, 0, none⟩)) ∧ W.cell? ⟨rr, 0, none⟩ = some (.slice tao C.T.length tcap) := fun W hW => by
                have k1 := hW.heap BW2.out (fun h => h)
                have k2 := hW.heap BD.out (fun h => h)
                refine ⟨by rw [cell_of_row W wb _ _ _ _ k1, arr3_self hm3], cell_of_row W d 0 _ _ _ k2, by rw [cell_of_row W wb _ _ _ _ k1, arr3_at hm3 hn3 hne, EW.out], (HR10.out.quiet hW).cells.1⟩
              have HS := Lib.hid hS
              clear hS
              refine wp_region_lex (fun W => W.cell? ⟨wb, m, none⟩ = some (.pointer (some ⟨d, 0, none⟩)) ∧ W.cell? ⟨d, 0, none⟩ = some (.slice none 0 0) ∧ W.cell? ⟨wb, (m + 1) % 3, none⟩ = some (.pointer (some ⟨rr, 0, none⟩)) ∧ W.cell? ⟨rr, 0, none⟩ = some (.slice tao C.T.length tcap)) 18 [15, 18] [0, 1, 2, 3, 4, 5, 6, 7, 8, 9, 10, 11, 12, 13, 14, 15, 16, 17, 18] (by kernel_rfl) (by kernel_rfl) (HS.out _ (Chg.refl _ _).drew) ?_
              have n0 := N0.out; have n1 := N1.out; have nq := NQ.out
              iterate 15
                refine' lex_free (v := _) rfl rfl rfl ?_ (fun _ _ _ h => h) ?_
                rotate_left
                · rintro W ⟨hW1, hW2, hW3, hW4⟩
                  go_simp
                  with_reducible rfl
                try simp only [Act.put, List.setIfInBounds_toArray, List.set_cons_zero, List.set_cons_succ]
              clear n0 n1 nq
              refine lex_op rfl rfl rfl (fun K hK => ?_)
              obtain ⟨us0, oT, eT⟩ := HR10.out.T
              have ET := Lib.hid eT; have OT := Lib.hid oT
              clear oT eT
              have ht16 := HRA.out.ok.t16
              have hi256 := HRA.out.ok.ilen
              refine own_wp tab_ok _ _ rfl w.heap.size (.slice none 0 0) 0 [] rfl (Own.nil _ _ _ _) _ (.slice tao C.T.length tcap) C.T.length (tabCells C.T us0) rfl (OT.out.quiet (Chg.refl _ _).drew).readOwn (by rw [tabCells_len ET.out.1]) (tabs_one ET.out) (by unfold maxLen; omega) (by omega) (by have := S8.out.chg.size; have := XW.out.size; show w.heap.size ≤ W10.heap.size; omega) ?_
              intro v1 w11 r11 x11 hat11
              obtain ⟨ao11, cap11, rfl, _⟩ := r11.form
              rw [Nat.zero_add] at r11 hat11
              rw [List.nil_append] at r11
              have y11 : Chg (fun _ => False) W10 w11 := ((Chg.refl (fun _ => False) W10).drew.trans x11 (fun g hg => by simp [Value.ownBlock] at hg))
              have A11 := Lib.hid (fun g (hg : (Value.slice ao11 C.T.length cap11).ownBlock = some g) => (by
                rcases hat11 g hg with h | h
                · simp [Value.ownBlock] at h
                · exact h : g = W10.heap.size))
              have Y11 := Lib.hid y11; have R11 := Lib.hid r11
              have b11 := y11.heap BD.out (fun h => h)
              have B11 := Lib.hid b11
              have m0 := cell_of_row w11 d 0 _ _ _ b11
              have f0 := frozen_of_row w11 d 0 _ _ b11
              clear r11 x11 hat11 y11 b11
              refine hK _ _ (fun _ => HS.out w11 Y11.out) ?_
              clear hK K
              try simp only [Act.put, List.setIfInBounds_toArray, List.set_cons_zero, List.set_cons_succ]
              iterate 2
                refine' lex_free (v := _) rfl rfl rfl ?_ (fun _ _ _ h => h) ?_
                rotate_left
                · rintro W ⟨hW1, hW2, hW3, hW4⟩
                  go_simp
                  with_reducible rfl
                try simp only [Act.put, List.setIfInBounds_toArray, List.set_cons_zero, List.set_cons_succ]
              refine lex_op rfl rfl rfl (fun K hK => ?_)
              go_simp
              refine hK _ _ (fun h => absurd rfl h) ?_
              clear hK K
              try simp only [Act.put, List.setIfInBounds_toArray, List.set_cons_zero, List.set_cons_succ]
              refine lex_nil ?_
              go_wp2
              obtain ⟨W12, hW12⟩ : ∃ W12, W12 = w11.setCell ⟨d, 0, none⟩ (.slice ao11 C.T.length cap11) := ⟨_, rfl⟩
              rw [← hW12]
              have X12 : Hid (Chg (fun g => g = d) W10 W12) := Lib.hid (by subst hW12; exact (Y11.out.mono (G := fun g => g = d) (fun _ h => h.elim)).setCell (p := ⟨d, 0, none⟩) (.inl rfl) _)
              have BD12 : Hid (W12.heap[d]? = some (.cells #[.slice ao11 C.T.length cap11, .slice none 0 0] 58 (0, 0))) := Lib.hid (by subst hW12; rw [hset_eq B11.out]; rfl)
              have R12 : Hid (Own 27 2 W12 w.heap.size (.slice ao11 C.T.length cap11) C.T.length (tabCells C.T us0)) := Lib.hid (by
                subst hW12
                exact R11.out.chg ((Chg.refl (fun g => g = d) w11).setCell (p := ⟨d, 0, none⟩) (.inl rfl) _) (fun g hg e => by have := A11.out g hg; have := Z10.out; omega))
              have hs12 : W10.heap.size ≤ W12.heap.size := X12.out.size
              clear hW12 m0 f0
              have HD8 := Lib.hid (show d ≠ hb ∧ d ≠ wb from ⟨fun e => by have := HHB.out; omega, fun e => by have := HWBL.out; omega⟩)
              have hS : ∀ W, Chg (fun _ => False) W12 W → W.cell? ⟨wb, m, none⟩ = some (.pointer (some ⟨d, 0, none⟩)) ∧ W.cell? ⟨d, 1, none⟩ = some (.slice none 0 0) ∧ W.cell? ⟨wb, (m + 1) % 3, none⟩ = some (.pointer (some ⟨rr, 0, none⟩)) ∧ W.cell? ⟨rr, 1, none⟩ = some (.slice iao C.I.length icap) := fun W hW => by
                have k1 := hW.heap (X12.out.heap BW2.out (fun h => HD8.out.2 h.symm)) (fun h => h)
                have k2 := hW.heap BD12.out (fun h => h)
                have hr := ((HR10.out.chg X12.out (fun g hg h => by have := (HRA.out.rf g hg).2; omega) (fun g hg h => by have := HRA.out.k_lt g hg; omega)).quiet hW).cells.2.1
                refine ⟨by rw [cell_of_row W wb _ _ _ _ k1, arr3_self hm3], cell_of_row W d 1 _ _ _ k2, by rw [cell_of_row W wb _ _ _ _ k1, arr3_at hm3 hn3 hne, EW.out], hr⟩
              have HS30 := Lib.hid hS
              clear hS
              refine wp_region_lex (fun W => W.cell? ⟨wb, m, none⟩ = some (.pointer (some ⟨d, 0, none⟩)) ∧ W.cell? ⟨d, 1, none⟩ = some (.slice none 0 0) ∧ W.cell? ⟨wb, (m + 1) % 3, none⟩ = some (.pointer (some ⟨rr, 0, none⟩)) ∧ W.cell? ⟨rr, 1, none⟩ = some (.slice iao C.I.length icap)) 18 [15, 18] [0, 1, 2, 3, 4, 5, 6, 7, 8, 9, 10, 11, 12, 13, 14, 15, 16, 17, 18] (by kernel_rfl) (by kernel_rfl) (HS30.out _ (Chg.refl _ _).drew) ?_
              have n0 := N0.out; have n1 := N1.out; have nq := NQ.out
              iterate 15
                refine' lex_free (v := _) rfl rfl rfl ?_ (fun _ _ _ h => h) ?_
                rotate_left
                · rintro W ⟨hW1, hW2, hW3, hW4⟩
                  go_simp
                  with_reducible rfl
                try simp only [Act.put, List.setIfInBounds_toArray, List.set_cons_zero, List.set_cons_succ]
              clear n0 n1 nq
              refine lex_op rfl rfl rfl (fun K hK => ?_)
              have HR12 := Lib.hid (HR10.out.chg X12.out (fun g hg h => by have := (HRA.out.rf g hg).2; omega) (fun g hg h => by have := HRA.out.k_lt g hg; omega))
              refine own_wp ix_ok _ _ rfl w.heap.size (.slice none 0 0) 0 [] rfl (Own.nil _ _ _ _) _ (.slice iao C.I.length icap) C.I.length (ixCells C.I) rfl (HR12.out.I.quiet (Chg.refl _ _).drew).readOwn (ixCells_len _) (ixCells_one _) (by unfold maxLen; omega) (by omega) (by have := S8.out.chg.size; have := XW.out.size; show w.heap.size ≤ W12.heap.size; omega) ?_
              intro v13 w13 r13 x13 hat13
              obtain ⟨ao13, cap13, rfl, _⟩ := r13.form
              rw [Nat.zero_add] at r13 hat13
              rw [List.nil_append] at r13
              have y13 : Chg (fun _ => False) W12 w13 := ((Chg.refl (fun _ => False) W12).drew.trans x13 (fun g hg => by simp [Value.ownBlock] at hg))
              have A13 := Lib.hid (fun g (hg : (Value.slice ao13 C.I.length cap13).ownBlock = some g) => (by
                rcases hat13 g hg with h | h
                · simp [Value.ownBlock] at h
                · exact h : g = W12.heap.size))
              have Y13 := Lib.hid y13; have R13 := Lib.hid r13
              have b13 := y13.heap BD12.out (fun h => h)
              have B13 := Lib.hid b13
              have m0 := cell_of_row w13 d 1 _ _ _ b13
              have f0 := frozen_of_row w13 d 1 _ _ b13
              clear r13 x13 hat13 y13 b13
              refine hK _ _ (fun _ => HS30.out w13 Y13.out) ?_
              clear hK K
              try simp only [Act.put, List.setIfInBounds_toArray, List.set_cons_zero, List.set_cons_succ]
              iterate 2
                refine' lex_free (v := _) rfl rfl rfl ?_ (fun _ _ _ h => h) ?_
                rotate_left
                · rintro W ⟨hW1, hW2, hW3, hW4⟩
                  go_simp
                  with_reducible rfl
                try simp only [Act.put, List.setIfInBounds_toArray, List.set_cons_zero, List.set_cons_succ]
              refine lex_op rfl rfl rfl (fun K hK => ?_)
              go_simp
              refine hK _ _ (fun h => absurd rfl h) ?_
              clear hK K
              try simp only [Act.put, List.setIfInBounds_toArray, List.set_cons_zero, List.set_cons_succ]
              refine lex_nil ?_
              go_wp2
              go_meet
              obtain ⟨W14, hW14⟩ : ∃ W14, W14 = w13.setCell ⟨d, 1, none⟩ (.slice ao13 C.I.length cap13) := ⟨_, rfl⟩
              rw [← hW14]
              have x14 : Chg (fun g => g = d) w13 W14 := by subst hW14; exact (Chg.refl (fun g => g = d) w13).setCell (p := ⟨d, 1, none⟩) (.inl rfl) _
              have bd14 : W14.heap[d]? = some (.cells #[.slice ao11 C.T.length cap11, .slice ao13 C.I.length cap13] 58 (0, 0)) := by subst hW14; rw [hset_eq B13.out]; rfl
              clear hW14 m0 f0
              have x1014 : Chg (fun g => g = d) W10 W14 := (X12.out.trans Y13.out (fun _ h => h.elim)).trans x14 (fun _ h => .inl h)
              have x814 : Chg (fun g => g = hb ∨ g = wb) W8 W14 := XW.out.trans x1014 (fun g hg => .inr (by omega))
              have x114 : Chg (fun g => g = hb ∨ g = wb) wc1 W14 := ((X9.out.trans X10.out (fun _ h => .inl h)).trans x1014 (fun g hg => .inr (by have := HDL.out; omega)))
              have hd8 := HD8.out
              have hz1 := Z10.out
              have hs13 := Y13.out.size
              have hs14 := x14.size
              have hdl := HDL.out
              have hown1 : ∀ g, (Value.slice ao11 C.T.length cap11).ownBlock = some g → g = d + 1 := fun g hg => by have := A11.out g hg; omega
              have hown2 : ∀ g, (Value.slice ao13 C.I.length cap13).ownBlock = some g → g = W12.heap.size := fun g hg => A13.out g hg
              have hr14a : Own 27 2 W14 w.heap.size (.slice ao11 C.T.length cap11) C.T.length (tabCells C.T us0) := (R12.out.quiet Y13.out).chg x14 (fun g hg e => by have := hown1 g hg; omega)
              have hr14b : Own 64 4 W14 w.heap.size (.slice ao13 C.I.length cap13) C.I.length (ixCells C.I) := R13.out.chg x14 (fun g hg e => by have := hown2 g hg; omega)
              have hlt1 : ∀ g, (Value.slice ao11 C.T.length cap11).ownBlock = some g → g < W14.heap.size := fun g hg => hr14a.lt hg
              have hlt2 : ∀ g, (Value.slice ao13 C.I.length cap13).ownBlock = some g → g < W14.heap.size := fun g hg => hr14b.lt hg
              have hlo8 : w.heap.size ≤ W8.heap.size := S8.out.chg.size
              have hklt := HRA.out.k_lt
              have hrat14 : RAt W14 w.heap.size d K (.slice ao11 C.T.length cap11) (.slice ao13 C.I.length cap13) C := by
                refine ⟨bd14, by omega, ⟨us0, hr14a, ET.out.chg x1014 (fun g hg h => by have := hklt g hg; omega)⟩, hr14b, fun h => by have := hown1 d h; omega, fun h => by have := hown2 d h; omega, fun g hg h => by have := R12.out.lt hg; have := hown2 g h; omega, fun g hg => ⟨fun h => by have := hklt g hg; omega, fun h => by have := hklt g hg; have := hown1 g h; omega, fun h => by have := hklt g hg; have := hown2 g h; omega⟩, fun g hg => by have := hklt g hg; have := x814.size; omega, HRA.out.ok⟩
              refine ⟨0, fun g => if g < W8.heap.size then c g else if g < wc1.heap.size then m + 1 else if g < W14.heap.size then m + 4 else 0, _, _, _, rfl, rfl, S8.out.put2 hm3 x814 (fun g hg => by rcases hg with h | h; exact .inl h; exact .inr (.inl h)) (fun g hg => by simp only [if_pos hg]) (fun g hg => ?_) (x1014.heap BH2.out (fun h => hd8.1 h.symm)) (x1014.heap BW2.out (fun h => hd8.2 h.symm)) (o' := some C) ?_⟩
              · by_cases hg1 : g < W8.heap.size
                · have := x814.size; omega
                · simp only [if_neg hg1] at hg
                  by_cases hg2 : g < wc1.heap.size
                  · have := x114.size; omega
                  · simp only [if_neg hg2] at hg
                    by_cases hg3 : g < W14.heap.size
                    · exact hg3
                    · simp only [if_neg hg3] at hg
                      exact absurd rfl hg
              · refine ⟨HBU.out, rn, d, _, _, K, D, rfl, rfl, ?_, HLK.out, hrat14, fun g hg => ?_, fun g hg => ?_⟩
                · refine ((HCN.out.mono (G := fun g => W8.heap.size ≤ g ∧ g < wc1.heap.size) (fun g hg hl => ⟨hg, hl⟩)).chg x114 (fun g hg h => by have := HHB.out; have := HWBL.out; omega)).mono (fun g hg _ => ?_)
                  show (if g < W8.heap.size then c g else _) = m + 1
                  rw [if_neg (by omega), if_pos hg.2]
                · show (if g < W8.heap.size then c g else _) = m + 4
                  have h1 := (hrat14.rf g hg).2
                  have h2 : wc1.heap.size ≤ g := by
                    rcases hg with h | h | h
                    · omega
                    · have := hown1 g h; omega
                    · have := hown2 g h; omega
                  have h4 := XX1.out.size
                  rw [if_neg (by omega), if_neg (by omega), if_pos h1]
                · show (if g < W8.heap.size then c g else _) = 7
                  rw [if_pos (hklt g hg)]
                  exact HKK.out g hg
          | false =>
           have K3 := Lib.hid h3
           cases h4 : x.kind == 4 with
           | true =>
            as_aux_lemma =>
             have hEm := S8.out.each m hm3
             obtain ⟨mh, mw⟩ := S8.out.cells hm3
             have h3 : (m : Int) < 3 := by omega
             clear e3
             cases hom : o m with
             | none =>
               rw [hom] at hEm
               obtain ⟨e1, e2⟩ := hEm
               rw [e2] at mw
               clear e1 e2 hom mh
               go_wp2
               go_meet
               exact ⟨0, c, hv, wv, o, rfl, rfl, S8.out⟩
             | some C =>
               rw [hom] at hEm
               obtain ⟨hbud, rc, rr, vt, vi, K, D, e1, e2, hcat, hlike, hrat, hRF, hK⟩ := hEm
               rw [e1] at mh
               rw [e2] at mw
               have hok := hrat.ok
               have HBU := Lib.hid hbud; have HLK := Lib.hid hlike; have HRA := Lib.hid hrat; have HRF := Lib.hid hRF; have HKK := Lib.hid hK; have HCA := Lib.hid hcat
               have E2 := Lib.hid e2; have EO := Lib.hid hom
               have HRW := Lib.hid (hlike.rows hok); have HSR := Lib.hid (read_sorted hok hbud); have HSL := Lib.hid (sorted_like hok)
               have HRO := Lib.hid (rows_ok hok)
               have HR2 := Lib.hid (fun j row (hj : C.rows[j]? = some row) => (rows_two hok (List.mem_of_getElem? hj)))
               clear hbud hlike hrat hRF hK hcat e1 e2 hom hok
               go_wp2_with fail
               refine (rows_free rc _ D W8 HCA.out).mono ?_
               rw [HRW.out]
               rintro e w9 ⟨vr, Br, rfl, hBr, hrw, x9⟩
               obtain ⟨ar, capr, rfl⟩ := hrw.form rfl
               have HRWU := Lib.hid hrw; have X9 := Lib.hid x9; have S9 := Lib.hid (S8.out.quiet x9)
               clear hrw x9 mh mw
               obtain ⟨mh, mw⟩ := S9.out.cells hm3
               rw [E2.out] at mw
               go_wp2_with fail
               refine (rrows_any w.heap.size rr K vt vi C w9 (HRA.out.quiet X9.out)).mono ?_
               rintro e w10 ⟨vr2, rfl, hr2, x10⟩
               have HRR2 := Lib.hid hr2
               obtain ⟨us2, _, ar2, capr2, rfl, _⟩ := hr2
               have X10 := Lib.hid x10; have S10 := Lib.hid (S9.out.quiet x10); have HRW10 := Lib.hid (HRWU.out.quiet x10)
               clear x10
               go_wp2_with fail
               refine (sameRows_any _ _ _ _ C.rows w10 HRW10.out.rws.read HRR2.out (by have := HRO.out.2; omega) (fun row hr => by have := (HRO.out.1.each row hr).1; omega)).mono ?_
               rintro e w11 ⟨rfl, x11⟩
               have S11 := Lib.hid (S10.out.quiet x11); have HRW11 := Lib.hid (HRW10.out.quiet x11)
               have X811 := Lib.hid ((X9.out.trans X10.out (fun _ h => h.elim)).trans x11 (fun _ h => h.elim))
               clear x11 mh mw
               have hrd := read_any _ C.rows w11 (RowsAt.mono (F := fun g => Br ≤ g) HRW11.out.rws.read (fun g _ hg => hg)) HRO.out.1
               rw [HSR.out] at hrd
               go_wp2_with fail
               refine hrd.mono ?_
               rintro e w12 ⟨⟨rn, rfl, hcn⟩, x12⟩
               have S12 := Lib.hid (S11.out.quiet x12); have HRW12 := Lib.hid (HRW11.out.quiet x12); have HCN := Lib.hid hcn; have X12 := Lib.hid x12
               clear hcn x12 hrd
               obtain ⟨mh, mw⟩ := S12.out.cells hm3
               have fh := frozen_of_row w12 hb m _ _ S12.out.hcell
               clear mw
               go_wp2
               obtain ⟨W13, hW13⟩ : ∃ W13, W13 = w12.setCell ⟨hb, m, none⟩ (.pointer (some ⟨rn, 0, none⟩)) := ⟨_, rfl⟩
               rw [← hW13]
               have x13 : Chg (fun g => g = hb) w12 W13 := by subst hW13; exact (Chg.refl (fun g => g = hb) w12).setCell (p := ⟨hb, m, none⟩) (.inl rfl) _
               have hhb8 := lt_of_heap S8.out.hcell
               have hz811 := X811.out.size
               have hz1112 := X12.out.size
               have hz13 : W13.heap.size = w12.heap.size := by subst hW13; simp [World.setCell]
               have bh13 : W13.heap[hb]? = some (.cells ((#[hv 0, hv 1, hv 2] : Array Value).setIfInBounds m (.pointer (some ⟨rn, 0, none⟩))) 56 (0, 0)) := by subst hW13; exact hset_eq S12.out.hcell
               have hwh : wb ≠ hb := fun e => by have h1 := S8.out.chb; have h2 := S8.out.cwb; rw [e, h1] at h2; cases h2
               have bw13 : W13.heap[wb]? = some (.cells ((#[wv 0, wv 1, wv 2] : Array Value).setIfInBounds m (.pointer (some ⟨rr, 0, none⟩))) 59 (0, 0)) := by
                 have h1 := x13.heap S12.out.wcell hwh
                 rw [h1, ← E2.out, arr3_same hm3]
               have x1113 : Chg (fun g => g = hb) w11 W13 := (X12.out.mono (G := fun g => g = hb) (fun _ h => h.elim)).trans x13 (fun _ h => .inl h)
               have x813 : Chg (fun g => g = hb) W8 W13 := (X811.out.mono (G := fun g => g = hb) (fun _ h => h.elim)).trans x1113 (fun _ h => .inl h)
               have hrf := HRA.out.rf
               have hkl := HRA.out.k_lt
               have hst13 : St w W13 (fun g => if g < w11.heap.size then c g else if g < w12.heap.size then m + 1 else 0) hb wb (fun j => if j = m then .pointer (some ⟨rn, 0, none⟩) else hv j) (fun j => if j = m then .pointer (some ⟨rr, 0, none⟩) else wv j) (fun j => if j = m then some C else o j) := by
                 refine S11.out.put2 hm3 x1113 (fun g hg => .inl hg) (fun g hg => by simp only [if_pos hg]) (fun g hg => ?_) bh13 bw13 (o' := some C) ?_
                 · by_cases hg1 : g < w11.heap.size
                   · omega
                   · simp only [if_neg hg1] at hg
                     by_cases hg2 : g < w12.heap.size
                     · omega
                     · simp only [if_neg hg2] at hg
                       exact absurd rfl hg
                 · refine ⟨HBU.out, rn, rr, vt, vi, K, C.sorted, rfl, rfl, ?_, HSL.out, HRA.out.chg x813 (fun g hg h => by have := HRF.out g hg; have := S8.out.chb; subst h; omega) (fun g hg h => by have := HKK.out g hg; have := S8.out.chb; subst h; omega), fun g hg => ?_, fun g hg => ?_⟩
                   · refine ((HCN.out.mono (G := fun g => w11.heap.size ≤ g ∧ g < w12.heap.size) (fun g hg hl => ⟨hg, hl⟩)).chg x13 (fun g hg h => by omega)).mono (fun g hg _ => ?_)
                     show (if g < w11.heap.size then c g else _) = m + 1
                     rw [if_neg (by omega), if_pos hg.2]
                   · show (if g < w11.heap.size then c g else _) = m + 4
                     rw [if_pos (by have := (hrf g hg).2; omega)]
                     exact HRF.out g hg
                   · show (if g < w11.heap.size then c g else _) = 7
                     rw [if_pos (by have := hkl g hg; omega)]
                     exact HKK.out g hg
               have ST13 := Lib.hid hst13
               obtain ⟨us3, o11, e11, u11⟩ := HRW11.out
               have o13 := o11.chg x1113 (fun g hg h => by have := o11.lo g hg; omega)
               have hQ : ∀ (j : Nat) (row : List Val) (u : Value), C.rows[j]? = some row → us3[j]? = some u → ∃ b of cap, u = .slice (some ⟨b, of, none⟩) row.length cap ∧ Br ≤ b ∧ (Value.slice ar C.rows.length capr).ownBlock ≠ some b ∧ b < w11.heap.size ∧ ∃ cur t, W13.heap[b]? = some (.cells cur t (0, 0)) ∧ of + 5 < cur.size := fun j row u hj hu => by
                 have h2 := HR2.out j row hj
                 obtain ⟨hv3, _⟩ := e11.2 j row u hj hu
                 obtain ⟨ao3, cap3, rfl, hp3⟩ := hv3
                 obtain ⟨b, of, rfl, hbl, ⟨hF1, hF2⟩, hr3⟩ := hp3 (by omega)
                 obtain ⟨cur, t, hcur⟩ := u11 _ (List.mem_of_getElem? hu) _ _ _ rfl (by omega)
                 refine ⟨b, of, cap3, rfl, hF1, hF2, hbl, cur, t, x1113.heap hcur (by omega), ?_⟩
                 have hlen : (valCells row).length = row.length * 3 := valCells_len row
                 have h5 := hr3 5 _ (List.getElem?_eq_getElem (by omega))
                 rw [cell_of_row w11 b (of + 5) _ _ _ hcur] at h5
                 exact (Array.getElem?_eq_some_iff.1 h5).1
               have HQ := Lib.hid hQ; have HO13 := Lib.hid o13; have HE13 := Lib.hid e11.1
               have hrl := HRO.out.2
               clear hst13 e11 u11 o11 hQ o13 bh13 bw13 x13 x1113 x813 hW13 hrf hkl mh fh
               go_loopw [14] (fun s wq => ∃ j : Nat, j ≤ C.rows.length ∧ s = .int .i64 j ∧ Hid (∀ (j : Nat) (row : List Val) (u : Value), C.rows[j]? = some row → us3[j]? = some u → ∃ b of cap, u = .slice (some ⟨b, of, none⟩) row.length cap ∧ Br ≤ b ∧ (Value.slice ar C.rows.length capr).ownBlock ≠ some b ∧ b < w11.heap.size ∧ ∃ cur t, wq.heap[b]? = some (.cells cur t (0, 0)) ∧ of + 5 < cur.size) ∧ Hid (Chg (fun g => Br ≤ g ∧ (Value.slice ar C.rows.length capr).ownBlock ≠ some g ∧ g < w11.heap.size) W13 wq)) (fun s _ => C.rows.length - (intOf s).toNat)
               case atStart => exact ⟨0, Nat.zero_le _, rfl, HQ, Lib.hid (Chg.refl _ _)⟩
               case round =>
                 obtain ⟨j, hj, rfl, HQJ, HXQ⟩ := hrel
                 by_cases hjl : j < C.rows.length
                 · obtain ⟨row, hrow⟩ : ∃ row, C.rows[j]? = some row := ⟨_, List.getElem?_eq_getElem hjl⟩
                   obtain ⟨u, hu⟩ : ∃ u, us3[j]? = some u := ⟨_, List.getElem?_eq_getElem (by have := HE13.out; omega)⟩
                   obtain ⟨b, of, capu, rfl, hb1, hb2, hb3, cur, t, hcur, hsz⟩ := HQJ.out j row u hrow hu
                   have h2 := HR2.out j row hrow
                   have hoc := (HO13.out.chg HXQ.out (fun g hg h => h.2.1 hg)).read
                   obtain ⟨ao4, cap4, he4, hp4⟩ := hoc
                   simp only [Value.slice.injEq] at he4
                   obtain ⟨rfl, _, rfl⟩ := he4
                   obtain ⟨gb, go, rfl, hgb, _, hr4⟩ := hp4 (by omega)
                   have q0 := hr4 j _ hu
                   have hu5 : cur[of + 3 + 2]? = some (cur[of + 3 + 2]'(by omega)) := Array.getElem?_eq_getElem (by omega)
                   have m0 := cell_of_row wr b (of + 3 + 2) _ _ _ hcur
                   rw [hu5] at m0
                   have f0 := frozen_of_row wr b (of + 3 + 2) _ _ hcur
                   have hl1 : 1 < row.length := by omega
                   have HCU := Lib.hid hcur
                   have hbl := lt_of_heap hcur
                   clear hcur hu5 hrow hu hp4 hr4
                   go_wp2
                   go_roundw
                   case rel =>
                     refine ⟨j + 1, by omega, by go_num, Lib.hid (fun j' row' u' hj' hu' => ?_), Lib.hid (HXQ.out.setCell (p := ⟨b, of + 3 + 2, none⟩) (.inl ⟨hb1, hb2, hb3⟩) _)⟩
                     obtain ⟨b', of', cap', h1, h2', h3', h4', cur', t', hc', hs'⟩ := HQJ.out j' row' u' hj' hu'
                     refine ⟨b', of', cap', h1, h2', h3', h4', ?_⟩
                     by_cases hbb : b' = b
                     · subst hbb
                       exact ⟨_, t', hset_eq hc', by simpa using hs'⟩
                     · exact ⟨cur', t', (hset_ne hbb).trans hc', hs'⟩
                   case measure => simp [intOf]; omega
                 · go_wp2
                   go_meet
                   refine ⟨0, _, _, _, _, rfl, rfl, ST13.out.aside HXQ.out (fun g hg => ?_)⟩
                   have hbt8 : tb ≤ g := by have := hg.1; omega
                   refine ⟨?_, by have := HTB.out; omega⟩
                   show (if g < w11.heap.size then c g else _) = 0
                   rw [if_pos hg.2.2]
                   exact HC0.out g hbt8
           | false =>
             go_wp2
             go_meet
             exact ⟨0, c, hv, wv, o, rfl, rfl, S8.out⟩
      case rest =>
        obtain ⟨a, c', hv', wv', o', rfl, rfl, hst⟩ := hcut
        have SC := Lib.hid hst
        clear hst ST S8 PC8 PC HC0 B8 hbt
        go_wp2
        have h3 : (m : Int) < 3 := by omega
        have q := SC.out.cells hm3
        have Q := Lib.hid q
        clear q
        refine wp_region_lex (fun W => W.cell? ⟨hb, m, none⟩ = some (hv' m) ∧ W.cell? ⟨wb, m, none⟩ = some (wv' m)) 99 [10] [0, 1, 2, 3, 4, 5, 6, 7, 8, 9, 10, 11, 12] (by kernel_rfl) (by kernel_rfl) Q.out ?_
        iterate 4
          refine' lex_free (v := _) rfl rfl rfl ?_ (fun _ _ _ h => h) ?_
          rotate_left
          · rintro W ⟨hW1, hW2⟩
            go_simp
            with_reducible rfl
          try simp only [Act.put, List.setIfInBounds_toArray, List.set_cons_zero, List.set_cons_succ]
        iterate 6
          refine' lex_freeG (v := _) rfl rfl rfl ?_ (fun _ _ _ h => h) ?_
          rotate_left
          · rintro W ⟨hW1, hW2⟩
            go_simp
            with_reducible rfl
          try simp only [Act.put, List.setIfInBounds_toArray, List.set_cons_zero, List.set_cons_succ]
        refine lex_opG rfl rfl rfl (fun K hK => ?_)
        go_simp
        refine (One.alike ((SC.out.quiet (Chg.refl _ _).drew).each m hm3)).mono ?_
        rintro e w12 ⟨rfl, x12⟩
        have S12 := Lib.hid ((SC.out.quiet (Chg.refl _ _).drew).quiet x12)
        clear x12
        refine hK _ _ (fun _ => S12.out.cells hm3) ?_
        clear hK K
        try simp only [Act.put, List.setIfInBounds_toArray, List.set_cons_zero, List.set_cons_succ]
        iterate 1
          refine' lex_freeG (v := _) rfl rfl rfl ?_ (fun _ _ _ h => h) ?_
          rotate_left
          · rintro W ⟨hW1, hW2⟩
            go_simp
            with_reducible rfl
          try simp only [Act.put, List.setIfInBounds_toArray, List.set_cons_zero, List.set_cons_succ]
        iterate 1
          refine' lex_free (v := _) rfl rfl rfl ?_ (fun _ _ _ h => h) ?_
          rotate_left
          · rintro W ⟨hW1, hW2⟩
            go_simp
            with_reducible rfl
          try simp only [Act.put, List.setIfInBounds_toArray, List.set_cons_zero, List.set_cons_succ]
        refine lex_nil ?_
        go_wp2
        go_roundw
        case rel => exact ⟨i + 1, c', hv', wv', o', by omega, by go_num, S12⟩
        case measure => simp [intOf]; omega
    · have q0 := ST.out.cells (k := 0) (by omega)
      obtain ⟨q0h, q0w⟩ := q0
      have q1 := ST.out.cells (k := 1) (by omega)
      have Q1 := Lib.hid q1
      clear q1
      go_wp2_with fail
      refine (One.alike (ST.out.each 0 (by omega))).mono ?_
      rintro e w12 ⟨rfl, x12⟩
      have S12 := Lib.hid (ST.out.quiet x12)
      clear x12 q0h q0w
      obtain ⟨q1h, q1w⟩ := S12.out.cells (k := 1) (by omega)
      go_wp2_with fail
      refine (One.alike (S12.out.each 1 (by omega))).mono ?_
      rintro e w13 ⟨rfl, x13⟩
      have S13 := Lib.hid (S12.out.quiet x13)
      clear x13 q1h q1w
      go_wp2
      go_ret
      exact ⟨rfl, S13.out.chg⟩
end Go.Proofs.Ytpiijcjbphpffaa
