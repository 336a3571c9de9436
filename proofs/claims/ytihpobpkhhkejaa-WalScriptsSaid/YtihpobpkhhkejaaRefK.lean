/-
  What the document's disk's Keep, Sync and Restart do. No condition beyond each lemma's own.
-/
import Derived.Test.YtihpobpkhhkejaaRefW
import Derived.Test.YtihpobpkhhkejaaD3Keeps
set_option autoImplicit false
namespace Go.Proofs.Ytihpobpkhhkejaa
open Go Go.RowKit

theorem heap_setCells (g : Nat) (t : TypeId) (f : Nat × Nat) (post : List Value) : ∀ (vs old pre : List Value) (w : World), w.heap[g]? = some (.cells (pre ++ old ++ post).toArray t f) → old.length = vs.length →
    (w.setCells g pre.length vs).heap[g]? = some (.cells (pre ++ vs ++ post).toArray t f)
  | [], [], pre, w, h, _ => h
  | [], _ :: _, _, _, _, hl => by simp at hl
  | _ :: _, [], _, _, _, hl => by simp at hl
  | v :: vs, c :: old, pre, w, h, hl => by
    have h1 := hset_eq (i := pre.length) (v := v) h
    have e : (pre ++ c :: old ++ post).toArray.setIfInBounds pre.length v = (pre ++ [v] ++ old ++ post).toArray := by simp
    rw [e] at h1
    have ih := heap_setCells g t f post vs old (pre ++ [v]) _ h1 (by simpa using hl)
    have e2 : (pre ++ [v]).length = pre.length + 1 := by simp
    have e3 : pre ++ v :: vs ++ post = pre ++ [v] ++ vs ++ post := by simp
    rw [World.setCells, e3]
    rw [e2] at ih
    exact ih
theorem ownsRow_setCells {w : World} {b e s n g cap : Nat} {pre old post vs : List Value} (h : w.ownsRow b e s (.slice (some ⟨g, 0, none⟩) n cap) n (pre ++ old ++ post)) (hl : old.length = vs.length) :
    (w.setCells g pre.length vs).ownsRow b e s (.slice (some ⟨g, 0, none⟩) n cap) n (pre ++ vs ++ post) := by
  refine ⟨by have := h.1; simp only [List.length_append] at this ⊢; omega, ?_⟩
  rcases h.2 with ⟨h1, _⟩ | ⟨g', cap', cur, h1, hb, hg, h2, h3, h4, h5⟩
  · simp at h1
  · simp at h1
    obtain ⟨rfl, rfl⟩ := h1
    have hcur : cur = (pre ++ old ++ (post ++ cur.toList.drop (n * s))).toArray := by
      apply Array.ext'
      have := List.take_append_drop (n * s) cur.toList
      rw [h5] at this
      simp only [List.append_assoc] at this ⊢
      exact this.symm
    rw [hcur] at hg
    have := heap_setCells g e (0, 0) _ vs old pre w hg hl
    refine .inr ⟨g, cap, _, rfl, hb, this, h2, h3, ?_, ?_⟩
    · rw [hcur] at h4
      simp only [List.size_toArray, List.length_append] at h4 ⊢
      omega
    · have hlen : (pre ++ vs ++ post).length = n * s := by have := h.1; simp only [List.length_append] at this ⊢; omega
      show List.take (n * s) (pre ++ vs ++ (post ++ _)) = _
      rw [show pre ++ vs ++ (post ++ cur.toList.drop (n * s)) = (pre ++ vs ++ post) ++ cur.toList.drop (n * s) by simp, ← hlen, List.take_left']
      rfl
def flC (f : Int → Sec) (N : Nat) : List Value := (List.range N).flatMap fun (i : Nat) => secC (f i)
theorem flat_congr {f g : Nat → List Value} {l : List Nat} (h : ∀ i ∈ l, f i = g i) : l.flatMap f = l.flatMap g := by
  rw [List.flatMap_def, List.flatMap_def, List.map_congr_left h]
theorem flC_split (f : Int → Sec) (hf : ∀ k, (f k).length = 64) (N n : Nat) (h : n < N) : ∃ pre post, pre.length = n * 64 ∧ flC f N = pre ++ secC (f n) ++ post ∧ ∀ s, flC (upd f n s) N = pre ++ secC s ++ post := by
  have e : List.range N = List.range' 0 n ++ n :: List.range' (n + 1) (N - n - 1) := by
    have e0 : N = n + ((N - n - 1) + 1) := by omega
    have e1 : List.range' 0 N = List.range' 0 (n + ((N - n - 1) + 1)) := by rw [← e0]
    rw [List.range_eq_range', e1, ← List.range'_append_1, List.range'_succ, Nat.zero_add]
  refine ⟨(List.range' 0 n).flatMap (fun (i : Nat) => secC (f i)), (List.range' (n + 1) (N - n - 1)).flatMap (fun (i : Nat) => secC (f i)), ?_, ?_, fun s => ?_⟩
  · rw [flatMap_len _ 64 _ (fun i _ => by simp [hf])]; simp
  · unfold flC
    rw [e, List.flatMap_append, List.flatMap_cons, List.append_assoc]
  · unfold flC
    rw [e, List.flatMap_append, List.flatMap_cons, List.append_assoc]
    congr 1
    · refine flat_congr (fun i hi => ?_)
      unfold upd
      have := (List.mem_range'_1.1 hi).2
      rw [if_neg (by omega)]
    · congr 1
      · unfold upd; rw [if_pos rfl]
      · refine flat_congr (fun i hi => ?_)
        unfold upd
        have := (List.mem_range'_1.1 hi).1
        rw [if_neg (by omega)]
/-- what Keep makes of a disk -/
def Dsk.keepR (D : Dsk) (ks : List Bool) : Dsk := { D with kept := keepTo D.kept D.wait ks D.wait.length, wait := [], now := keepTo D.kept D.wait ks D.wait.length }
theorem keepTo_len {D : Dsk} (h : D.ok) (ks : List Bool) : ∀ k x, (keepTo D.kept D.wait ks k x).length = 64 := by
  intro k
  induction k with
  | zero => exact h.2.2.2.2.2.1
  | succ k ih =>
    intro x
    simp only [keepTo]
    cases h1 : D.wait[k]? with
    | none => exact ih x
    | some y =>
      cases h2 : ks[k]? with
      | none => exact ih x
      | some b =>
        cases b with
        | false => exact ih x
        | true =>
          show (upd _ y.1 y.2 x).length = 64
          exact upd_len ih (h.2.2.2.2.2.2 y (List.mem_of_getElem? h1)) x
theorem keepR_ok {D : Dsk} (h : D.ok) (ks : List Bool) : (D.keepR ks).ok := ⟨h.1, h.2.1, h.2.2.1, h.2.2.2.1, fun x => keepTo_len h ks _ x, fun x => keepTo_len h ks _ x, fun x hx => by cases hx⟩
theorem keepR_inv (D : Dsk) (ks : List Bool) : (D.keepR ks).inv := ⟨rfl, fun x hx => by cases hx⟩
theorem restart_eq {D : Dsk} (h : D.inv) (ks : List Bool) : D.restart ks = { D.keepR ks with down := false, left := -1 } := by
  have e : (D.restart ks).now = keepTo D.kept D.wait ks D.wait.length := by
    funext x
    rw [restart_now]
    split
    · rfl
    · rename_i hx
      rw [← h.1, keepAll_not _ _ _ hx, keepTo_not _ _ _ _ hx]
  have e2 : D.restart ks = { D with now := (D.restart ks).now, kept := keepTo D.kept D.wait ks D.wait.length, wait := [], down := false, left := -1 } := rfl
  rw [e2, e]
  rfl
theorem sync_eq {D : Dsk} (h : D.inv) : D.sync = (D.keepR (List.replicate D.wait.length true)).change := by
  have e : D.keepR (List.replicate D.wait.length true) = { D with kept := keepAll D.kept D.wait, wait := [] } := by
    unfold Dsk.keepR
    rw [keepTo_true _ _ _ (Nat.le_refl _), List.take_length, h.1]
  rw [e]
  rfl
theorem ownsRow_news {w : World} {b e s n c : Nat} {ao : Option Addr} {xs : List Value} (h : w.ownsRow b e s (.slice ao n c) n xs) : ∀ ad, ao = some ad → ∀ j u, xs[j]? = some u → w.cell? (ad.add j) = some u := by
  intro ad had j u hj
  rcases h.2 with ⟨h1, _⟩ | ⟨g, cap, cur, h1, hb, hg, h2, h3, h4, h5⟩
  · simp at h1; rw [h1.1] at had; cases had
  · simp at h1
    rw [h1.1] at had
    obtain rfl := Option.some.inj had
    exact h.cells (g := g) (by rw [h1.1]; rfl) j u hj
theorem ownsRow_none {w : World} {b e s n c : Nat} {ao : Option Addr} {xs : List Value} (h : w.ownsRow b e s (.slice ao n c) n xs) : ao = none → n = 0 := by
  intro ha
  rcases h.2 with ⟨_, h1⟩ | ⟨g, cap, cur, h1, _⟩
  · exact h1
  · simp at h1; rw [h1.1] at ha; cases ha
theorem there_of_heap {w : World} {g o n : Nat} {cur : Array Value} {t : TypeId} (h : w.heap[g]? = some (.cells cur t (0, 0))) (hs : o + n ≤ cur.size) : w.there g o n := by
  intro j hj
  refine ⟨?_, frozen_of_row w g (o + j) _ _ h⟩
  rw [cell_of_row w g (o + j) _ _ _ h]
  simp; omega
theorem there_row {w : World} {g cap N n m : Nat} {xs : List Value} (h : w.ownsRow 0 31 64 (.slice (some ⟨g, 0, none⟩) N cap) N xs) (hn : n < N) (hm : m ≤ 64) : w.there g (n * 64) m := by
  rcases h.2 with ⟨h1, _⟩ | ⟨g', cap', cur, h1, hb, hg, h2, h3, h4, h5⟩
  · simp at h1
  · simp at h1
    obtain ⟨rfl, rfl⟩ := h1
    exact there_of_heap hg (by omega)
set_option maxRecDepth 100000 in
set_option maxHeartbeats 1000000 in
theorem rkeep_any (r : Nat) (F : Nat → Prop) (D : Dsk) (w : World) (all : Bool) (ka : Option Addr) (kl kc : Nat) (ks : List Bool) (h : RefAt w r F D)
    (hk : (all = true ∧ ks = List.replicate D.wait.length true) ∨ (all = false ∧ BoolsAt w F (.slice ka kl kc) ks)) :
    Calls Try.prog 51 #[.pointer (some ⟨r, 0, none⟩), .slice ka kl kc, .bool all] w fun e w' => e = .returned (.tuple #[]) ∧ RefAt w' r (Ext F w w') (D.keepR ks) ∧ Chg F w w' := by
  obtain ⟨kv, wv, h⟩ := h
  obtain ⟨c0, c1, c2, c3, c4, c5⟩ := h.cells
  obtain ⟨ka0, kc0, rfl, hka⟩ := ownsRow_form h.kept
  obtain ⟨wa, wc, rfl, hwa⟩ := ownsRow_form h.row
  have hwl := ownsRow_le h.row
  have hz1 := h.ok.1
  have hz2 := h.ok.2.1
  obtain ⟨i0, z0, hi0, hzz0, hs0, hb0, hzs0⟩ := sec_info
  have hkl : (keptC D).length = D.size.toNat * 64 := h.kept.1
  have HH := Lib.hid h; have HK := Lib.hid hk; have HWA := Lib.hid hwa; have HKL := Lib.hid hkl
  clear h hk hka hwa hkl c0 c3 c4
  go_enter Try.func51, Try.ntmps51
  go_wp2_with (refine wpList_app _ rfl _ _ _ rfl 31 i0 z0 64 64 Try.underlying59 hi0 hzz0 hs0 hb0 (by rw [hzs0]; simp [sec0]) (.slice none 0 0) 0 [] rfl ⟨rfl, .inl ⟨rfl, rfl⟩⟩ ka0 D.size.toNat kc0 (keptC D) rfl HKL.out (ownsRow_none HH.out.kept) (ownsRow_news HH.out.kept) (fun u hu => by obtain ⟨_, _, hh⟩ := List.mem_flatMap.1 hu; exact secC_one _ u hh) (by unfold maxLen; omega) (by omega) ?_; intro v3 W3 r3 g3 hat _ hlt)
  have x3 : Chg (fun _ => False) w W3 := (Chg.refl _ w).grown g3 (fun k hk => by cases hk)
  have R3 := Lib.hid (show W3.ownsRow 0 31 64 v3 D.size.toNat (flC (keepTo D.kept D.wait ks 0) D.size.toNat) from by have := r3; rw [Nat.zero_add, List.nil_append] at this; exact this)
  have H3 := Lib.hid (HH.out.chg x3 (fun _ _ h => h))
  have HN := Lib.hid (show ∀ g, v3.ownBlock = some g → w.heap.size ≤ g from fun g hg => by
    rcases hat with h | h
    · rw [h] at hg; cases hg
    · rw [h] at hg; have := Option.some.inj hg; omega)
  have HL := Lib.hid (show 0 < D.size.toNat → ∃ g cap, v3 = .slice (some ⟨g, 0, none⟩) D.size.toNat cap from fun h => by
    obtain ⟨g, cap, e, _⟩ := hlt h
    rw [Nat.zero_add] at e
    exact ⟨g, cap, e⟩)
  have X3 := Lib.hid x3
  clear r3 g3 hat hlt x3 c1 c2
  go_wp2
  go_loopw [7] (fun i wr => ∃ k : Nat, k ≤ D.wait.length ∧ i = .int .i64 k ∧ wr.ownsRow 0 31 64 v3 D.size.toNat (flC (keepTo D.kept D.wait ks k) D.size.toNat) ∧ Chg (fun _ => False) w wr) (fun i _ => D.wait.length - (intOf i).toNat)
  case atStart => exact ⟨0, Nat.zero_le _, rfl, R3.out, X3.out⟩
  case round =>
    clear H3 R3 X3
    obtain ⟨k, hk, rfl, hr, hx⟩ := hrel
    have HR := Lib.hid hr; have HX := Lib.hid hx
    have h2 := HH.out.chg hx (fun _ _ h => h)
    have c2 := h2.cells.2.2.1
    have H2 := Lib.hid h2
    clear hr hx h2
    by_cases hlt : k < D.wait.length
    · obtain ⟨g, rfl⟩ := HWA.out (by omega)
      obtain ⟨x, hx⟩ : ∃ x, D.wait[k]? = some x := ⟨D.wait[k], List.getElem?_eq_getElem (by omega)⟩
      have hxl : x.2.length = 64 := HH.out.ok.2.2.2.2.2.2 x (List.mem_of_getElem? hx)
      obtain ⟨hx0, hx1⟩ := HH.out.inv.2 x (List.mem_of_getElem? hx)
      have hrg : wr.rangeAt g (k * 65) (wrC x) := by
        have := ownsRow_range H2.out.row (k * 65) 65
        rw [chunk wrC 65 D.wait (fun y hy => by simp [HH.out.ok.2.2.2.2.2.2 y hy]) k x hx] at this
        exact this
      have hcx : wr.cell? ⟨g, k * 65, none⟩ = some (.int .i64 x.1) := hrg 0 _ rfl
      have hrs : wr.rangeAt g (k * 65 + 1) (secC x.2) := fun i v hi => by
        have := hrg (i + 1) v (by simpa [wrC] using hi)
        rw [show k * 65 + (i + 1) = k * 65 + 1 + i by omega] at this
        exact this
      have HXX := Lib.hid hx; have HXL := Lib.hid hxl; have HG := Lib.hid hrs; have HCX := Lib.hid hcx; have C2 := Lib.hid c2
      have yes : ks[k]? = some true → keepTo D.kept D.wait ks (k + 1) = upd (keepTo D.kept D.wait ks k) x.1 x.2 := fun h => by simp only [keepTo, HXX.out, h]
      have no : ks[k]? ≠ some true → keepTo D.kept D.wait ks (k + 1) = keepTo D.kept D.wait ks k := fun h => by
        simp only [keepTo, HXX.out]
        split
        · rename_i h3; exact absurd h3 h
        · rfl
      have HY := Lib.hid yes; have HNO := Lib.hid no
      clear hx hxl hrg hrs hcx c2 yes no
      rcases HK.out with ⟨rfl, hks⟩ | ⟨rfl, hkb⟩
      · have hk1 : ks[k]? = some true := by rw [hks, List.getElem?_replicate, if_pos hlt]
        clear hks
        have c2 := C2.out
        have hcx := HCX.out
        have hrs := HG.out
        obtain ⟨n, hn⟩ : ∃ n : Nat, x.1 = n := ⟨x.1.toNat, by omega⟩
        obtain ⟨g3, cap3, rfl⟩ := HL.out (by omega)
        have hnn : n < D.size.toNat := by omega
        have hmx : (n : Int) < max D.size 0 := by omega
        rw [hn] at hcx
        have EN := Lib.hid hn
        clear hn
        go_wp2_with fail
        refine wp_region_lex (fun w' => w'.cell? ⟨r, 2, none⟩ = some (.slice (some ⟨g, 0, none⟩) D.wait.length wc) ∧ w'.cell? ⟨g, k * 65, none⟩ = some (.int .i64 n) ∧ w'.rangeAt g (k * 65 + 1) (secC x.2)) 18 [18] [0, 1, 2, 3, 4, 5, 6, 7, 8, 9, 10, 11, 12, 13, 14, 15, 16, 17, 18] (by kernel_rfl) (by kernel_rfl) ⟨c2, hcx, hrs⟩ ?_
        clear c2 hcx hrs
        iterate 16
          refine' lex_free (v := _) rfl rfl rfl ?_ (fun _ _ _ h => h) ?_
          rotate_left
          · rintro W ⟨hW1, hW2, hW3⟩
            go_simp
            with_reducible rfl
          try simp only [Act.put, List.setIfInBounds_toArray, List.set_cons_zero, List.set_cons_succ]
        refine' lex_free (v := .agg (secC x.2).toArray) rfl rfl rfl (fun W hW => ?_) (fun _ _ _ h => h) ?_
        rotate_left
        try simp only [Act.put, List.setIfInBounds_toArray, List.set_cons_zero, List.set_cons_succ]
        iterate 1
          refine' lex_free (v := _) rfl rfl rfl ?_ (fun _ _ _ h => h) ?_
          rotate_left
          · rintro W ⟨hW1, hW2, hW3⟩
            go_simp
            with_reducible rfl
          try simp only [Act.put, List.setIfInBounds_toArray, List.set_cons_zero, List.set_cons_succ]
        refine lex_op rfl rfl rfl (fun K hK => ?_)
        refine wp_store_mid 31 _ _ rfl g3 (n * 64) (secC x.2).toArray rfl rfl (there_row HR.out hnn (by rw [List.size_toArray, secC_len, HXL.out]; omega)) (info_secC HXL.out) (all_oneCell_toArray (secC_one _)) ?_
        refine hK _ _ (fun h => absurd rfl h) ?_
        clear hK K
        refine lex_nil ?_
        go_wp2
        go_roundw
        case rel =>
          refine ⟨k + 1, by omega, by go_num, ?_, (HX.out.drew).setCells (.inr (HN.out g3 rfl)) _⟩
          rw [HY.out hk1, EN.out]
          obtain ⟨pre, post, hp, h1, h2⟩ := flC_split (keepTo D.kept D.wait ks k) (keepTo_len HH.out.ok ks k) D.size.toNat n hnn
          have hr := HR.out
          rw [h1] at hr
          rw [h2, ← hp]
          exact ownsRow_setCells hr (by simp [keepTo_len HH.out.ok ks k n, HXL.out])
        case measure => simp [intOf]; omega
        refine exec_load_mid (ty := 31) (x := .tmp 51) ?_ ?_ hW.2.2 Try.underlying31 rfl (info_secC HXL.out) <;> rfl
      · obtain ⟨ka', kc', he, hkm, hkc⟩ := hkb
        simp only [Value.slice.injEq] at he
        obtain ⟨rfl, rfl, rfl⟩ := he
        by_cases h3 : k < ks.length
        · obtain ⟨b2, o2, rfl, hf2, hc2⟩ := hkc (by omega)
          obtain ⟨b, hb⟩ : ∃ b, ks[k]? = some b := ⟨ks[k], List.getElem?_eq_getElem h3⟩
          have hcb := hc2 k b hb
          have hcw : wr.cell? ⟨b2, o2 + k, none⟩ = some (.bool b) := by
            rw [cell_of_heap (HX.out.keep b2 (World.block_lt_of_cell? w _ hcb) (fun h => h))]; exact hcb
          clear hc2 hcb hkc
          cases b with
          | true =>
            have hk1 : ks[k]? = some true := hb
            clear hb
            have c2 := C2.out
            have hcx := HCX.out
            have hrs := HG.out
            obtain ⟨n, hn⟩ : ∃ n : Nat, x.1 = n := ⟨x.1.toNat, by omega⟩
            obtain ⟨g3, cap3, rfl⟩ := HL.out (by omega)
            have hnn : n < D.size.toNat := by omega
            have hmx : (n : Int) < max D.size 0 := by omega
            rw [hn] at hcx
            have EN := Lib.hid hn
            clear hn
            go_wp2_with fail
            refine wp_region_lex (fun w' => w'.cell? ⟨r, 2, none⟩ = some (.slice (some ⟨g, 0, none⟩) D.wait.length wc) ∧ w'.cell? ⟨g, k * 65, none⟩ = some (.int .i64 n) ∧ w'.rangeAt g (k * 65 + 1) (secC x.2)) 18 [18] [0, 1, 2, 3, 4, 5, 6, 7, 8, 9, 10, 11, 12, 13, 14, 15, 16, 17, 18] (by kernel_rfl) (by kernel_rfl) ⟨c2, hcx, hrs⟩ ?_
            clear c2 hcx hrs
            iterate 16
              refine' lex_free (v := _) rfl rfl rfl ?_ (fun _ _ _ h => h) ?_
              rotate_left
              · rintro W ⟨hW1, hW2, hW3⟩
                go_simp
                with_reducible rfl
              try simp only [Act.put, List.setIfInBounds_toArray, List.set_cons_zero, List.set_cons_succ]
            refine' lex_free (v := .agg (secC x.2).toArray) rfl rfl rfl (fun W hW => ?_) (fun _ _ _ h => h) ?_
            rotate_left
            try simp only [Act.put, List.setIfInBounds_toArray, List.set_cons_zero, List.set_cons_succ]
            iterate 1
              refine' lex_free (v := _) rfl rfl rfl ?_ (fun _ _ _ h => h) ?_
              rotate_left
              · rintro W ⟨hW1, hW2, hW3⟩
                go_simp
                with_reducible rfl
              try simp only [Act.put, List.setIfInBounds_toArray, List.set_cons_zero, List.set_cons_succ]
            refine lex_op rfl rfl rfl (fun K hK => ?_)
            refine wp_store_mid 31 _ _ rfl g3 (n * 64) (secC x.2).toArray rfl rfl (there_row HR.out hnn (by rw [List.size_toArray, secC_len, HXL.out]; omega)) (info_secC HXL.out) (all_oneCell_toArray (secC_one _)) ?_
            refine hK _ _ (fun h => absurd rfl h) ?_
            clear hK K
            refine lex_nil ?_
            go_wp2
            go_roundw
            case rel =>
              refine ⟨k + 1, by omega, by go_num, ?_, (HX.out.drew).setCells (.inr (HN.out g3 rfl)) _⟩
              rw [HY.out hk1, EN.out]
              obtain ⟨pre, post, hp, h1, h2⟩ := flC_split (keepTo D.kept D.wait ks k) (keepTo_len HH.out.ok ks k) D.size.toNat n hnn
              have hr := HR.out
              rw [h1] at hr
              rw [h2, ← hp]
              exact ownsRow_setCells hr (by simp [keepTo_len HH.out.ok ks k n, HXL.out])
            case measure => simp [intOf]; omega
            refine exec_load_mid (ty := 31) (x := .tmp 51) ?_ ?_ hW.2.2 Try.underlying31 rfl (info_secC HXL.out) <;> rfl
          | false =>
            have hk0 : ks[k]? ≠ some true := by rw [hb]; simp
            have c2 := C2.out
            clear HG HCX HXL HXX HY hx0 hx1
            go_wp2
            go_roundw
            case rel => exact ⟨k + 1, by omega, by go_num, by rw [HNO.out hk0]; exact HR.out, HX.out⟩
            case measure => simp [intOf]; omega
        · clear hkc
          have hk0 : ks[k]? ≠ some true := by rw [List.getElem?_eq_none (by omega)]; simp
          have c2 := C2.out
          clear HG HCX HXL HXX HY hx0 hx1
          go_wp2
          go_roundw
          case rel => exact ⟨k + 1, by omega, by go_num, by rw [HNO.out hk0]; exact HR.out, HX.out⟩
          case measure => simp [intOf]; omega
    · obtain rfl : k = D.wait.length := by omega
      have h2 := H2.out
      have c1 := h2.cells.2.1
      have f1 := h2.free 1
      have f2 := h2.free 2
      clear h2
      obtain ⟨a3, c3, rfl, _⟩ := ownsRow_form HR.out
      go_wp2
      go_end0
      have h2 := H2.out
      have hvr : ∀ g, (Value.slice a3 D.size.toNat c3).ownBlock = some g → g ≠ r := fun g hg => by have := HN.out g hg; omega
      refine ⟨rfl, ⟨.slice a3 D.size.toNat c3, .slice none 0 0, ?_, ?_, ⟨rfl, .inl ⟨rfl, rfl⟩⟩, .inl HH.out.fr, fun g hg => .inr ⟨HN.out g hg, by have := ownsRow_lt HR.out hg; simpa using this⟩, (fun g hg => by cases hg), keepR_ok HH.out.ok ks, keepR_inv D ks⟩, ((HX.out.mono (fun _ h => h.elim)).setCell (.inl HH.out.fr) _).setCell (.inl HH.out.fr) _⟩
      · rw [hset_eq (hset_eq h2.self)]; rfl
      · exact ownsRow_set (ownsRow_set HR.out hvr) hvr
/-! Sync and Restart -/
theorem rsync_nil (w : World) : Calls Try.prog 49 #[.pointer none] w fun e w' => e = .returned (.int .i64 2) ∧ w = w' := by
  go_enter Try.func49, Try.ntmps49
  go_wp2
  go_ret
  exact ⟨rfl, rfl⟩
theorem rrestart_nil (v : Value) (w : World) : Calls Try.prog 28 #[.pointer none, v] w fun e w' => e = .returned (.tuple #[]) ∧ w = w' := by
  go_enter Try.func28, Try.ntmps28
  go_wp2
  refine bodyPost_ret (results_none rfl _ _ _) rfl ?_
  exact ⟨rfl, rfl⟩
theorem Ext.grow {F : Nat → Prop} {w w1 w2 : World} (h1 : w.heap.size ≤ w1.heap.size) (h : w1.heap.size ≤ w2.heap.size) : ∀ k, Ext F w w1 k → Ext F w w2 k := fun k hk => by
  rcases hk with hk | hk
  · exact .inl hk
  · exact .inr ⟨hk.1, by omega⟩
theorem rsync_any (r : Nat) (F : Nat → Prop) (D : Dsk) (w : World) (h : RefAt w r F D) :
    Calls Try.prog 49 #[.pointer (some ⟨r, 0, none⟩)] w fun e w' => e = .returned (.int .i64 (if D.down then 24 else 0)) ∧ RefAt w' r (Ext F w w') (if D.down then D else D.sync) ∧ Chg F w w' := by
  have hc : w.cell? ⟨r, 3, none⟩ = some (.bool D.down) := by obtain ⟨kv, wv, h⟩ := h; exact h.cells.2.2.2.1
  have HH := Lib.hid h
  cases hd : D.down with
  | true =>
    rw [hd] at hc
    clear h hd
    go_enter Try.func49, Try.ntmps49
    go_wp2
    go_ret
    exact ⟨rfl, HH.out.mono (fun _ h _ => .inl h), Chg.refl _ _⟩
  | false =>
    rw [hd] at hc
    have HD := Lib.hid hd
    have HS := Lib.hid (sync_eq h.inv)
    clear h hd
    go_enter Try.func49, Try.ntmps49
    go_wp2_with fail
    refine (rkeep_any r F D w true none 0 0 _ HH.out (.inl ⟨rfl, rfl⟩)).mono ?_
    rintro e w1 ⟨rfl, d1, x1⟩
    have D1 := Lib.hid d1; have X1 := Lib.hid x1
    clear d1 x1
    go_wp2_with fail
    refine (rchange_any r _ _ w1 D1.out HD.out).mono ?_
    rintro e w2 ⟨rfl, d2, x2⟩
    have D2 := Lib.hid d2; have X2 := Lib.hid x2
    clear d2 x2
    go_wp2
    go_ret
    refine ⟨rfl, ?_, X1.out.trans X2.out (fun k hk => hk.elim .inl (fun h => .inr h.1))⟩
    have := D2.out.mono (G := Ext F w w2) (fun k hk _ => Ext.grow X1.out.size X2.out.size k hk)
    rw [← HS.out] at this
    exact this
theorem rrestart_any (r : Nat) (F : Nat → Prop) (D : Dsk) (w : World) (v : Value) (ks : List Bool) (h : RefAt w r F D) (hv : BoolsAt w F v ks) :
    Calls Try.prog 28 #[.pointer (some ⟨r, 0, none⟩), v] w fun e w' => e = .returned (.tuple #[]) ∧ RefAt w' r (Ext F w w') (D.restart ks) ∧ Chg F w w' := by
  have hb := hv
  obtain ⟨ka, kc, rfl, _⟩ := hv
  have HH := Lib.hid h; have HB := Lib.hid hb; have HS := Lib.hid (restart_eq h.inv ks)
  clear h hb
  go_enter Try.func28, Try.ntmps28
  go_wp2_with fail
  refine (rkeep_any r F D w false ka ks.length kc ks HH.out (.inr ⟨rfl, HB.out⟩)).mono ?_
  rintro e w1 ⟨rfl, d1, x1⟩
  obtain ⟨kv, wv, d1⟩ := d1
  have D1 := Lib.hid d1; have X1 := Lib.hid x1
  have c3 := d1.cells.2.2.2.1
  have c4 := d1.cells.2.2.2.2.1
  have f3 := d1.free 3
  have f4 := d1.free 4
  clear d1 x1
  go_wp2
  go_end0
  refine ⟨rfl, ⟨kv, wv, ?_⟩, (X1.out.setCell (.inl ?_) _).setCell (.inl ?_) _⟩
  · rw [HS.out]
    exact ((D1.out.setDown false).setLeft (-1) (by decide) (by decide)).mono (fun k hk _ => Ext.grow X1.out.size (by simp) k hk)
  · exact (by obtain ⟨kv, wv, h⟩ := HH.out; exact h.fr)
  · exact (by obtain ⟨kv, wv, h⟩ := HH.out; exact h.fr)
end Go.Proofs.Ytihpobpkhhkejaa
