/-
  What the document's disk's Read does. No condition beyond each lemma's own.
-/
import Derived.Test.YtihpobpkhhkejaaRefB
set_option autoImplicit false
namespace Go.Proofs.Ytihpobpkhhkejaa
open Go Go.RowKit

theorem keepAll_app (f : Int → Sec) (a b : List (Int × Sec)) : keepAll f (a ++ b) = keepAll (keepAll f a) b := by simp [keepAll]
theorem last_write (f : Int → Sec) (l : List (Int × Sec)) (n : Int) (k : Nat) (x : Int × Sec) (hk : l[k]? = some x) (hx : x.1 = n) (hl : ∀ j y, k < j → l[j]? = some y → y.1 ≠ n) : keepAll f l n = x.2 := by
  have hlt : k < l.length := (List.getElem?_eq_some_iff.1 hk).1
  have hs : l = l.take (k + 1) ++ l.drop (k + 1) := (List.take_append_drop _ _).symm
  rw [hs, keepAll_app, take_succ_get hk, keepAll_append, keepAll_not]
  · unfold upd; rw [if_pos hx.symm]
  · intro hm
    obtain ⟨y, hy, hyn⟩ := List.mem_map.1 hm
    obtain ⟨i, hi⟩ := List.mem_iff_getElem?.1 hy
    rw [List.getElem?_drop] at hi
    exact hl _ y (by omega) hi hyn
theorem Chg.setRow {F : Nat → Prop} {a b : World} (h : Chg F a b) {g : Nat} (hp : F g ∨ a.heap.size ≤ g) (cs : Array Value) : Chg F a (b.setRow g cs) :=
  h.trans (G := fun k => k = g) ⟨rfl, rfl, rfl, by simp, fun k _ hk => by simp only [World.setRow, Array.getElem?_modify]; rw [if_neg (by omega)]⟩ (fun x hx => by subst hx; exact hp)
theorem two_range (w : World) (za : Array Value) (cs : List Value) : ((w.alloc (.cells za 31)).alloc (.cells cs.toArray 31)).rangeAt (w.heap.size + 1) 0 cs := by
  have e : (w.alloc (.cells za 31)).heap.size = w.heap.size + 1 := by simp
  rw [← e]; exact range_block hal_new
theorem two_first (w : World) (za : Array Value) (o : Obj) : ((w.alloc (.cells za 31)).alloc o).heap[w.heap.size]? = some (.cells za 31 (0, 0)) := (hal_old (by simp)).trans hal_new
theorem row_range {w : World} {g : Nat} {za : Array Value} {cs : List Value} (h : w.heap[g]? = some (.cells za 31 (0, 0))) : (w.setRow g cs.toArray).rangeAt g 0 cs := range_block (setRow_heap w g za _ _ _ h)
theorem ownsRow_le {w : World} {b e s n : Nat} {v : Value} {xs : List Value} (h : w.ownsRow b e s v n xs) : n ≤ 9223372036854775807 := by
  rcases h.2 with ⟨_, rfl⟩ | ⟨g, cap, cur, rfl, _, _, h1, h2, _⟩
  · omega
  · unfold maxLen at h2; omega
attribute [local go_sem ↓] exec_build_sec0
set_option maxRecDepth 100000 in
theorem rread_nil (n : Int) (w : World) :
    Calls Try.prog 29 #[.pointer none, .int .i64 n] w fun e w' => e = .returned (.tuple #[.agg (secC sec0).toArray, .int .i64 2]) ∧ Chg (fun _ => False) w w' := by
  have H0 := Lib.hid info_sec0; have H1 := Lib.hid (info_secC sec0_len); have H2 := Lib.hid ((secC_len sec0).trans sec0_len); have HO := Lib.hid (secC_one sec0)
  go_enter Try.func29, Try.ntmps29
  go_wp2_with (first | ((fail_if_success (have _h := HZA)); refine wpList_alloc_big rfl 31 64 rfl H0.out (fun za hza => ?_); have HZA := Lib.hid hza; clear hza) | (refine wpList_alloc_big rfl 31 64 rfl H0.out (fun zs hzs => ?_); have HZS := Lib.hid hzs; clear hzs) | (refine wpList_store_new rfl 31 _ _ rfl (secC sec0) _ rfl rfl rfl (H2.out.trans HZS.out.symm) H1.out HO.out ?_) | (refine wpList_load_big rfl 31 _ rfl (w.heap.size + 1) 0 rfl (secC sec0) _ (two_range w za _) Try.underlying31 rfl H1.out ?_) | (refine wpList_store_row rfl 31 _ _ rfl w.heap.size (secC sec0).toArray rfl rfl 31 za (two_first w za _) H1.out (HZA.out.trans H2.out.symm) (all_oneCell_toArray HO.out) ?_))
  refine bodyPost_ret (results_big2 rfl _ _ w.heap.size (secC sec0) _ rfl (row_range (two_first w za _)) Try.underlying31 rfl H1.out) rfl ?_
  exact ⟨rfl, (((Chg.refl _ w).alloc _).alloc _).setRow (.inr (Nat.le_refl _)) _⟩
set_option maxRecDepth 100000 in
set_option maxHeartbeats 1000000 in
theorem rread_any (r : Nat) (F : Nat → Prop) (D : Dsk) (n : Int) (w : World) (h : RefAt w r F D) :
    Calls Try.prog 29 #[.pointer (some ⟨r, 0, none⟩), .int .i64 n] w fun e w' => e = .returned (.tuple #[.agg (secC (D.readR n)).toArray, .int .i64 (errOf D.size D.down n)]) ∧ Chg (fun _ => False) w w' := by
  obtain ⟨kv, wv, h⟩ := h
  have H0 := Lib.hid info_sec0; have H1 := Lib.hid (info_secC sec0_len); have H2 := Lib.hid ((secC_len sec0).trans sec0_len); have HO := Lib.hid (secC_one sec0)
  have h2 : ∀ za : Array Value, RefIn ((w.alloc (.cells za 31)).alloc (.cells (secC sec0).toArray 31)) r F D kv wv := fun za => h.chg (((Chg.refl (fun _ => False) w).alloc _).alloc _) (fun _ _ h => h)
  have hc0 := fun za => (h2 za).cells.1
  have hc1 := fun za => (h2 za).cells.2.1
  have hc2 := fun za => (h2 za).cells.2.2.1
  have hc3 := fun za => (h2 za).cells.2.2.2.1
  have hr0 := lt_of_heap h.self
  have HH := Lib.hid h; have HI := Lib.hid h2
  clear h h2
  by_cases h1 : n < 0
  · have hr : D.readR n = sec0 := by unfold Dsk.readR; rw [errOf_out (.inl h1)]; rfl
    rw [hr, errOf_out (.inl h1)]
    clear hr hc1 hc2 hc3
    go_enter Try.func29, Try.ntmps29
    go_wp2_with (first | ((fail_if_success (have _h := HZA)); refine wpList_alloc_big rfl 31 64 rfl H0.out (fun za hza => ?_); have HZA := Lib.hid hza; clear hza) | (refine wpList_alloc_big rfl 31 64 rfl H0.out (fun zs hzs => ?_); have HZS := Lib.hid hzs; clear hzs) | (refine wpList_store_new rfl 31 _ _ rfl (secC sec0) _ rfl rfl rfl (H2.out.trans HZS.out.symm) H1.out HO.out ?_) | (refine wpList_load_big rfl 31 _ rfl (w.heap.size + 1) 0 rfl (secC sec0) _ (two_range w za _) Try.underlying31 rfl H1.out ?_) | (refine wpList_store_row rfl 31 _ _ rfl w.heap.size (secC sec0).toArray rfl rfl 31 za (two_first w za _) H1.out (HZA.out.trans H2.out.symm) (all_oneCell_toArray HO.out) ?_))
    refine bodyPost_ret (results_big2 rfl _ _ w.heap.size (secC sec0) _ rfl (row_range (two_first w za _)) Try.underlying31 rfl H1.out) rfl ?_
    exact ⟨rfl, (((Chg.refl _ w).alloc _).alloc _).setRow (.inr (Nat.le_refl _)) _⟩
  · by_cases h3 : D.size ≤ n
    · have hr : D.readR n = sec0 := by unfold Dsk.readR; rw [errOf_out (.inr h3)]; rfl
      rw [hr, errOf_out (.inr h3)]
      clear hr hc1 hc2 hc3
      go_enter Try.func29, Try.ntmps29
      go_wp2_with (first | ((fail_if_success (have _h := HZA)); refine wpList_alloc_big rfl 31 64 rfl H0.out (fun za hza => ?_); have HZA := Lib.hid hza; clear hza) | (refine wpList_alloc_big rfl 31 64 rfl H0.out (fun zs hzs => ?_); have HZS := Lib.hid hzs; clear hzs) | (refine wpList_store_new rfl 31 _ _ rfl (secC sec0) _ rfl rfl rfl (H2.out.trans HZS.out.symm) H1.out HO.out ?_) | (refine wpList_load_big rfl 31 _ rfl (w.heap.size + 1) 0 rfl (secC sec0) _ (two_range w za _) Try.underlying31 rfl H1.out ?_) | (refine wpList_store_row rfl 31 _ _ rfl w.heap.size (secC sec0).toArray rfl rfl 31 za (two_first w za _) H1.out (HZA.out.trans H2.out.symm) (all_oneCell_toArray HO.out) ?_))
      refine bodyPost_ret (results_big2 rfl _ _ w.heap.size (secC sec0) _ rfl (row_range (two_first w za _)) Try.underlying31 rfl H1.out) rfl ?_
      exact ⟨rfl, (((Chg.refl _ w).alloc _).alloc _).setRow (.inr (Nat.le_refl _)) _⟩
    · cases hd : D.down with
      | true =>
        have he : errOf D.size true n = 24 := by unfold errOf; rw [if_neg (by omega)]; rfl
        have hr : D.readR n = sec0 := by unfold Dsk.readR; rw [hd, he]; rfl
        rw [hr, he]
        rw [hd] at hc3
        clear hr he hd hc1 hc2
        go_enter Try.func29, Try.ntmps29
        go_wp2_with (first | ((fail_if_success (have _h := HZA)); refine wpList_alloc_big rfl 31 64 rfl H0.out (fun za hza => ?_); have HZA := Lib.hid hza; clear hza) | (refine wpList_alloc_big rfl 31 64 rfl H0.out (fun zs hzs => ?_); have HZS := Lib.hid hzs; clear hzs) | (refine wpList_store_new rfl 31 _ _ rfl (secC sec0) _ rfl rfl rfl (H2.out.trans HZS.out.symm) H1.out HO.out ?_) | (refine wpList_load_big rfl 31 _ rfl (w.heap.size + 1) 0 rfl (secC sec0) _ (two_range w za _) Try.underlying31 rfl H1.out ?_) | (refine wpList_store_row rfl 31 _ _ rfl w.heap.size (secC sec0).toArray rfl rfl 31 za (two_first w za _) H1.out (HZA.out.trans H2.out.symm) (all_oneCell_toArray HO.out) ?_))
        refine bodyPost_ret (results_big2 rfl _ _ w.heap.size (secC sec0) _ rfl (row_range (two_first w za _)) Try.underlying31 rfl H1.out) rfl ?_
        exact ⟨rfl, (((Chg.refl _ w).alloc _).alloc _).setRow (.inr (Nat.le_refl _)) _⟩
      | false =>
        have he : errOf D.size false n = 0 := errOf_in (by omega) (by omega)
        have hr : D.readR n = keepAll D.kept D.wait n := by unfold Dsk.readR; rw [hd, he, if_pos rfl, HH.out.inv.1]
        rw [hr, he]
        rw [hd] at hc3
        obtain ⟨N, rfl⟩ : ∃ N : Nat, n = N := ⟨n.toNat, by omega⟩
        obtain ⟨ka, kc, rfl, hka⟩ := ownsRow_form HH.out.kept
        obtain ⟨wa, wc, rfl, hwa⟩ := ownsRow_form HH.out.row
        have HKA := Lib.hid hka; have HWA := Lib.hid hwa
        have hz1 := HH.out.ok.1
        have hz2 := HH.out.ok.2.1
        have hwl := ownsRow_le HH.out.row
        clear hr he hd hka hwa
        go_enter Try.func29, Try.ntmps29
        go_wp2_with (first | ((fail_if_success (have _h := HZA)); refine wpList_alloc_big rfl 31 64 rfl H0.out (fun za hza => ?_); have HZA := Lib.hid hza; clear hza) | (refine wpList_alloc_big rfl 31 64 rfl H0.out (fun zs hzs => ?_); have HZS := Lib.hid hzs; clear hzs) | (refine wpList_store_new rfl 31 _ _ rfl (secC sec0) _ rfl rfl rfl (H2.out.trans HZS.out.symm) H1.out HO.out ?_))
        have t1 := (HI.out za).cells.2.1
        have tf := Lib.hid (two_first w za (.cells (secC sec0).toArray 31))
        have HR := Lib.hid (HI.out za)
        have hX := (((Chg.refl (fun _ => False) w).alloc (.cells za 31)).alloc (.cells (secC sec0).toArray 31))
        have HX := Lib.hid hX
        clear hX hc0 hc1 hc2 hc3
        generalize ((w.alloc (.cells za 31)).alloc (.cells (secC sec0).toArray 31)) = w2 at *
        have t2 := HR.out.cells.2.2.1
        go_loopw [7] (fun i wr => ∃ (k : Nat) (z : Int), k ≤ D.wait.length ∧ i = .int .i64 z ∧ z = (k : Int) - 1 ∧ wr = w2 ∧ ∀ j y, k ≤ j → D.wait[j]? = some y → y.1 ≠ N) (fun i _ => (intOf i + 1).toNat)
        case atStart => exact ⟨D.wait.length, _, Nat.le_refl _, rfl, rfl, rfl, fun j y hj hy => by have := (List.getElem?_eq_some_iff.1 hy).1; omega⟩
        case round =>
          obtain ⟨k, z, hk, rfl, hz, rfl, hno⟩ := hrel
          by_cases hk0 : k = 0
          · obtain rfl : z = -1 := by omega
            obtain ⟨g, rfl⟩ := HKA.out (by omega)
            have hsl : (D.kept N).length = 64 := HH.out.ok.2.2.2.2.2.1 N
            have hrg : wr.rangeAt g (N * 64) (secC (D.kept N)) := by
              have := ownsRow_range HR.out.kept (N * 64) 64
              unfold keptC at this
              rw [chunk (fun (i : Nat) => secC (D.kept i)) 64 (List.range D.size.toNat) (fun i _ => by simp [HH.out.ok.2.2.2.2.2.1]) N N (by rw [List.getElem?_range (by omega)])] at this
              exact this
            have hv : keepAll D.kept D.wait N = D.kept N := keepAll_not _ _ _ (fun hm => by
              obtain ⟨y, hy, hyn⟩ := List.mem_map.1 hm
              obtain ⟨i, hi⟩ := List.mem_iff_getElem?.1 hy
              exact hno i y (by omega) hi hyn)
            have HV := Lib.hid hv; have HG := Lib.hid hrg; have HS1 := Lib.hid (info_secC hsl); have HS2 := Lib.hid ((secC_len (D.kept N)).trans hsl); have HS3 := Lib.hid (secC_one (D.kept N))
            have hlt : N < D.size.toNat := by omega
            clear hv hrg hsl hno hz hk0 hk
            go_wp2_with (first | (refine wpList_load_big rfl 31 _ rfl g (N * 64) rfl (secC (D.kept N)) _ HG.out Try.underlying31 rfl HS1.out ?_) | (refine wpList_store_row rfl 31 _ _ rfl w.heap.size (secC (D.kept N)).toArray rfl rfl 31 za tf.out HS1.out (HZA.out.trans HS2.out.symm) (all_oneCell_toArray HS3.out) ?_))
            refine bodyPost_ret (results_big2 rfl _ _ w.heap.size (secC (D.kept N)) _ rfl (row_range tf.out) Try.underlying31 rfl HS1.out) rfl ?_
            exact ⟨by rw [HV.out]; rfl, HX.out.setRow (.inr (Nat.le_refl _)) _⟩
          · obtain ⟨j, rfl⟩ : ∃ j, k = j + 1 := ⟨k - 1, by omega⟩
            obtain rfl : z = (j : Int) := by omega
            obtain ⟨g, rfl⟩ := HWA.out (by omega)
            obtain ⟨x, hx⟩ : ∃ x, D.wait[j]? = some x := ⟨D.wait[j], List.getElem?_eq_getElem (by omega)⟩
            have hxl : x.2.length = 64 := HH.out.ok.2.2.2.2.2.2 x (List.mem_of_getElem? hx)
            have hrg : wr.rangeAt g (j * 65) (wrC x) := by
              have := ownsRow_range HR.out.row (j * 65) 65
              rw [chunk wrC 65 D.wait (fun y hy => by simp [HH.out.ok.2.2.2.2.2.2 y hy]) j x hx] at this
              exact this
            have hcx : wr.cell? ⟨g, j * 65, none⟩ = some (.int .i64 x.1) := hrg 0 _ rfl
            have hrs : wr.rangeAt g (j * 65 + 1) (secC x.2) := fun i v hi => by
              have := hrg (i + 1) v (by simpa [wrC] using hi)
              rw [show j * 65 + (i + 1) = j * 65 + 1 + i by omega] at this
              exact this
            have hlt : j < D.wait.length := by omega
            have HNO := Lib.hid hno; have HG := Lib.hid hrs; have HS1 := Lib.hid (info_secC hxl); have HS2 := Lib.hid ((secC_len x.2).trans hxl); have HS3 := Lib.hid (secC_one x.2); have HXX := Lib.hid hx
            clear hno hrg hrs hxl hx hz hk0
            by_cases he : x.1 = N
            · have hv : keepAll D.kept D.wait N = x.2 := last_write _ _ _ j x HXX.out he (fun i y hi hy => HNO.out i y (by omega) hy)
              have HV := Lib.hid hv
              rw [he] at hcx
              clear hv he
              go_wp2_with (first | (refine wpList_load_big rfl 31 _ rfl g (j * 65 + 1) rfl (secC x.2) _ HG.out Try.underlying31 rfl HS1.out ?_) | (refine wpList_store_row rfl 31 _ _ rfl w.heap.size (secC x.2).toArray rfl rfl 31 za tf.out HS1.out (HZA.out.trans HS2.out.symm) (all_oneCell_toArray HS3.out) ?_))
              refine bodyPost_ret (results_big2 rfl _ _ w.heap.size (secC x.2) _ rfl (row_range tf.out) Try.underlying31 rfl HS1.out) rfl ?_
              exact ⟨by rw [HV.out]; rfl, HX.out.setRow (.inr (Nat.le_refl _)) _⟩
            · have hq : (x.1 == (N : Int)) = false := by simp [he]
              have HE := Lib.hid (show ∀ i y, j ≤ i → D.wait[i]? = some y → y.1 ≠ N from fun i y hi hy => by
                by_cases hij : i = j
                · subst hij
                  rw [HXX.out] at hy
                  obtain rfl := Option.some.inj hy
                  exact he
                · exact HNO.out i y (by omega) hy)
              clear he
              generalize x.1 = X at *
              go_wp2
              go_roundw
              case rel => exact ⟨j, _, by omega, rfl, by first | trivial | omega, by first | trivial | rfl, HE.out⟩
              case measure => first | (simp [intOf]; done) | (simp [intOf]; omega)
end Go.Proofs.Ytihpobpkhhkejaa
