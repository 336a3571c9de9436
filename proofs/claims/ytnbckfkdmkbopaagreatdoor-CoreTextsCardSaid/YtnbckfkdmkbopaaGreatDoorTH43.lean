/-
  Plans: does a read have a row? No condition beyond each lemma's own.
  Rows: may a value be (the document's answer)? is a row right? No condition beyond each lemma's own.
  Rows: is a row right for columns? No condition beyond each lemma's own.
-/
import Derived.Test.YtnbckfkdmkbopaaGreatDoorTH42
import Derived.Test.YtnbckfkdmkbopaaGreatDoorTH26
set_option autoImplicit false
namespace Go.Proofs.YtnbckfkdmkbopaaGreatDoor
open Go Go.RowKit

theorem covers_all (v : Value) (w : World) : Calls Tryz.prog 10 #[RdF.all.val, v] w fun e w' => e = .returned (.bool true) ∧ Chg NoB w w' := by
  go_enter Tryz.func10, Tryz.ntmps10
  go_wp2_with fail
  go_ret
  exact ⟨rfl, (Chg.refl _ _).alloc _⟩
set_option maxRecDepth 100000 in
set_option maxHeartbeats 1000000 in
theorem covers_at (lo hi : Val) (i : Nat) (row : List Val) (v : Val) (hv : row[i]? = some v) (F : Nat → Prop) (ao : Option Addr) (cap : Nat) (hm : row.length ≤ 1000000) (w : World) (h : ValsAt w F (.slice ao row.length cap) row) :
    Calls Tryz.prog 10 #[RdF.val ⟨i, lo, hi⟩, .slice ao row.length cap] w fun e w' => e = .returned (.bool (inL lo hi v)) ∧ Chg NoB w w' := by
  obtain ⟨hlt, _⟩ := List.getElem?_eq_some_iff.1 hv
  obtain ⟨ao', cap', e, hh⟩ := h
  cases e
  obtain ⟨b, o, rfl, hbl, hF, hr⟩ := hh (by omega)
  have X1 : Chg NoB w (w.alloc (RdF.obj ⟨i, lo, hi⟩)) := (Chg.refl _ _).alloc _
  have q := range_elem (s := 3) hr (fun _ => rfl) hv
  have a0 : w.cell? ⟨b, o + i * 3, none⟩ = some (.int .i64 v.kind) := q 0 _ rfl
  have a1 : w.cell? ⟨b, o + i * 3 + 1, none⟩ = some (.int .i64 v.num) := q 1 _ rfl
  have a2 : w.cell? ⟨b, o + i * 3 + 2, none⟩ = some (sv v.str) := q 2 _ rfl
  have hi1 : (i : Int) < row.length := by omega
  have hi2 : ¬ (row.length : Int) ≤ i := by omega
  have W2 : Hid (((w.alloc (RdF.obj ⟨i, lo, hi⟩)).alloc v.obj).heap[w.heap.size]? = some (RdF.obj ⟨i, lo, hi⟩) ∧ ((w.alloc (RdF.obj ⟨i, lo, hi⟩)).alloc v.obj).heap[w.heap.size + 1]? = some v.obj ∧ Chg NoB w ((w.alloc (RdF.obj ⟨i, lo, hi⟩)).alloc v.obj)) := Lib.hid ⟨(hal_old (by simp)).trans hal_new, hal_new' (by simp), X1.alloc _⟩
  obtain ⟨q0, hq0⟩ : ∃ q, (v.kind == 0) = q := ⟨_, rfl⟩
  have HIN : Hid (inL lo hi v = (q0 || (decide (cmpV lo v ≤ 0) && decide (cmpV v hi ≤ 0)))) := Lib.hid (by rw [← hq0]; rfl)
  rw [HIN.out]
  clear hv hh hr q X1
  cases q0 with
  | true =>
    go_enter Tryz.func10, Tryz.ntmps10
    go_wp2_with fail
    go_ret
    exact ⟨by simp, W2.out.2.2⟩
  | false =>
    obtain ⟨c1, hc1⟩ : ∃ c, cmpV lo v = c := ⟨_, rfl⟩
    have HC1 := Lib.hid hc1
    rw [hc1]
    clear hc1
    go_enter Tryz.func10, Tryz.ntmps10
    go_wp2_with fail
    refine (compare_any lo v _).mono ?_
    rw [HC1.out]
    rintro e w2 ⟨rfl, c2⟩
    have R2 := Lib.hid (c2.heap W2.out.1 (fun h => h))
    have V2 := Lib.hid (c2.heap W2.out.2.1 (fun h => h))
    have X2 := Lib.hid (W2.out.2.2.trans c2 (fun _ h => h.elim))
    clear c2 a0 a1 a2
    obtain ⟨r0, r1, r2, r3, r4, r5, r6, r7⟩ := RdCells.of R2.out
    obtain ⟨v0, v1, v2⟩ := val_cells V2.out
    by_cases hle : c1 ≤ 0
    · have hd : decide (c1 ≤ 0) = true := by simpa using hle
      clear hle
      go_wp2_with fail
      refine (compare_any v hi _).mono ?_
      rintro e w3 ⟨rfl, c3⟩
      have X3 := Lib.hid (X2.out.trans c3 (fun _ h => h.elim))
      clear c3
      go_wp2_with fail
      go_ret
      exact ⟨by simp [hd], X3.out⟩
    · have hd : decide (c1 ≤ 0) = false := by simpa using hle
      clear hle
      go_wp2_with fail
      go_ret
      exact ⟨by simp [hd], X2.out⟩
/-- does a read have a row? -/
def covB (r : RdF) (row : List Val) : Bool := if r.col < 0 then true else inL r.lo r.hi (row.getD r.col.toNat Val.null)
theorem covB_law {q : Option (Nat × Int × Val)} {r : RdF} (hok : r.ok q) (row : List Val) (h : covB r row = false) : covL q row = false := by
  rcases hok with rfl | ⟨i, k, v, rfl, rfl⟩
  · simp [covB, RdF.all] at h
  · have hi : ¬ (i : Int) < 0 := by omega
    simpa [covB, covL, hi] using h
theorem quest_lt (cs : List Bcol) : ∀ (y : Ex) (i : Nat) (k : Int) (v : Val), questL cs y = some (i, k, v) → i < cs.length
  | .bin k a b, i, k', v, h => by
    simp only [questL] at h
    split at h
    · exact quest_lt cs a i k' v h
    · split at h
      · cases h
      · split at h
        · obtain ⟨_, _, _, _, _, hc, e⟩ := cmpQ_some h
          cases e
          obtain ⟨d, hd, _⟩ := Option.map_eq_some_iff.1 hc
          exact (List.getElem?_eq_some_iff.1 hd).1
        · obtain ⟨_, _, _, _, _, hc, e⟩ := cmpQ_some h
          cases e
          obtain ⟨d, hd, _⟩ := Option.map_eq_some_iff.1 hc
          exact (List.getElem?_eq_some_iff.1 hd).1
  | .val _, _, _, _, h => by simp [questL] at h
  | .slot _, _, _, _, h => by simp [questL] at h
  | .col _ _, _, _, _, h => by simp [questL] at h
  | .cnt, _, _, _, h => by simp [questL] at h
  | .un _ _, _, _, _, h => by simp [questL] at h
theorem covers_any (cs : List Bcol) (y : Ex) (row : List Val) (hr : rowOk cs row) (r : RdF) (hok : r.ok (questL cs y)) (F : Nat → Prop) (ao : Option Addr) (cap : Nat) (hm : row.length ≤ 1000000) (w : World) (h : ValsAt w F (.slice ao row.length cap) row) :
    Calls Tryz.prog 10 #[r.val, .slice ao row.length cap] w fun e w' => e = .returned (.bool (covB r row)) ∧ Chg NoB w w' := by
  rcases hok with rfl | ⟨i, k, v, hq, rfl⟩
  · exact covers_all _ w
  · have hl := quest_lt cs y i k v hq
    have hrow : row[i]? = some (row[i]'(by have := hr.1; omega)) := List.getElem?_eq_getElem _
    have hi : ¬ (i : Int) < 0 := by omega
    have hc : covB ⟨i, loL k v, hiL k v⟩ row = inL (loL k v) (hiL k v) (row[i]'(by have := hr.1; omega)) := by
      simp only [covB, hi, if_false, Int.toNat_natCast, List.getD, hrow, Option.getD_some]
    rw [hc]
    exact covers_at (loL k v) (hiL k v) i row _ hrow F ao cap hm w h
end Go.Proofs.YtnbckfkdmkbopaaGreatDoor

set_option autoImplicit false
namespace Go.Proofs.YtnbckfkdmkbopaaGreatDoor
open Go Go.RowKit

set_option maxHeartbeats 2000000 in
theorem rok_any (v : Val) (w : World) : Calls Tryz.prog 27 #[v.val] w fun e w' => e = .returned (.bool (okV v)) ∧ Chg NoB w w' := by
  obtain ⟨k, n, s⟩ := v
  have X : Hid (Chg NoB w (w.alloc (.cells #[.int .i64 k, .int .i64 n, sv s] 26))) := Lib.hid ((Chg.refl NoB w).alloc _)
  by_cases hlo : k < 0
  · have hok : okV ⟨k, n, s⟩ = false := by
      have h0 : ¬ k = 0 := by omega
      have h1 : ¬ k = 1 := by omega
      have h2 : ¬ k = 2 := by omega
      have h3 : ¬ k = 3 := by omega
      simp [okV, h0, h1, h2, h3]
    rw [hok]
    go_enter Tryz.func27, Tryz.ntmps27
    go_wp2
    go_ret
    exact ⟨rfl, X.out⟩
  by_cases hhi : 3 < k
  · have hok : okV ⟨k, n, s⟩ = false := by
      have h0 : ¬ k = 0 := by omega
      have h1 : ¬ k = 1 := by omega
      have h2 : ¬ k = 2 := by omega
      have h3 : ¬ k = 3 := by omega
      simp [okV, h0, h1, h2, h3]
    rw [hok]
    go_enter Tryz.func27, Tryz.ntmps27
    go_wp2
    go_ret
    exact ⟨rfl, X.out⟩
  have hk : k = 0 ∨ k = 1 ∨ k = 2 ∨ k = 3 := by omega
  clear hlo hhi
  obtain ⟨q, hq⟩ : ∃ q, s.isEmpty = q := ⟨_, rfl⟩
  have HQ := Lib.hid hq
  rcases hk with rfl | rfl | rfl | rfl
  · have hok : okV ⟨0, n, s⟩ = (n == 0 && q) := by rw [← hq]; rfl
    rw [hok]
    cases q with
    | false =>
      have hl : ¬ s.length = 0 := by
        intro h; rw [List.eq_nil_of_length_eq_zero h] at hq; cases hq
      go_enter Tryz.func27, Tryz.ntmps27
      go_wp2
      go_ret
      exact ⟨by simp, X.out⟩
    | true =>
      obtain rfl : s = [] := by simpa using hq
      clear hq HQ
      by_cases hn : n = 0
      · subst hn
        go_enter Tryz.func27, Tryz.ntmps27
        go_wp2
        go_ret
        exact ⟨rfl, X.out⟩
      · have hb : (n != 0) = true := by simpa using hn
        have hb2 : (n == 0) = false := by simpa using hn
        rw [hb2]
        go_enter Tryz.func27, Tryz.ntmps27
        go_wp2
        go_ret
        exact ⟨rfl, X.out⟩
  · have hok : okV ⟨1, n, s⟩ = q := by rw [← hq]; rfl
    rw [hok]
    cases q with
    | false =>
      go_enter Tryz.func27, Tryz.ntmps27
      go_wp2
      go_ret
      exact ⟨rfl, X.out⟩
    | true =>
      obtain rfl : s = [] := by simpa using hq
      clear hq HQ
      go_enter Tryz.func27, Tryz.ntmps27
      go_wp2
      go_ret
      exact ⟨rfl, X.out⟩
  · have hok : okV ⟨2, n, s⟩ = ((n == 0 || n == 1) && q) := by rw [← hq]; rfl
    rw [hok]
    cases q with
    | false =>
      go_enter Tryz.func27, Tryz.ntmps27
      go_wp2
      go_ret
      exact ⟨by simp, X.out⟩
    | true =>
      obtain rfl : s = [] := by simpa using hq
      clear hq HQ
      by_cases hn : n = 0
      · subst hn
        go_enter Tryz.func27, Tryz.ntmps27
        go_wp2
        go_ret
        exact ⟨rfl, X.out⟩
      · by_cases hn1 : n = 1
        · subst hn1
          go_enter Tryz.func27, Tryz.ntmps27
          go_wp2
          go_ret
          exact ⟨rfl, X.out⟩
        · have hb : (n != 0) = true := by simpa using hn
          have hb1 : (n != 1) = true := by simpa using hn1
          have hb2 : (n == 0) = false := by simpa using hn
          have hb3 : (n == 1) = false := by simpa using hn1
          rw [hb2, hb3]
          go_enter Tryz.func27, Tryz.ntmps27
          go_wp2
          go_ret
          exact ⟨rfl, X.out⟩
  · have hok : okV ⟨3, n, s⟩ = (n == 0 && decide (s.length ≤ 64)) := by simp [okV]
    rw [hok]
    clear hq HQ
    by_cases hn : n = 0
    · subst hn
      by_cases hl : s.length ≤ 64
      · have hi : (s.length : Int) ≤ 64 := by omega
        go_enter Tryz.func27, Tryz.ntmps27
        go_wp2
        go_ret
        exact ⟨by simp [hl], X.out⟩
      · have hi : ¬ (s.length : Int) ≤ 64 := by omega
        go_enter Tryz.func27, Tryz.ntmps27
        go_wp2
        go_ret
        exact ⟨by simp, X.out⟩
    · have hb : (n != 0) = true := by simpa using hn
      have hb2 : (n == 0) = false := by simpa using hn
      rw [hb2]
      go_enter Tryz.func27, Tryz.ntmps27
      go_wp2
      go_ret
      exact ⟨rfl, X.out⟩
end Go.Proofs.YtnbckfkdmkbopaaGreatDoor

set_option autoImplicit false
namespace Go.Proofs.YtnbckfkdmkbopaaGreatDoor
open Go Go.RowKit

def fitB (v : Val) (t : Int) : Bool := okV v && (v.kind == 0 || v.kind == t)
def fitsB : List Val → List Int → Bool
  | v :: row, t :: ts => fitB v t && fitsB row ts
  | _, _ => true
def rightB (ts : List Int) (row : List Val) : Bool := decide (row.length = ts.length) && fitsB row ts
theorem fitsB_all : ∀ (row : List Val) (ts : List Int), fitsB row ts = true ↔ ∀ (i : Nat) (v : Val) (t : Int), row[i]? = some v → ts[i]? = some t → fitB v t = true
  | [], ts => by simp [fitsB]
  | v :: row, [] => by simp [fitsB]
  | v :: row, t :: ts => by
    simp only [fitsB, Bool.and_eq_true, fitsB_all row ts]
    constructor
    · rintro ⟨h1, h2⟩ i u s hu hs
      cases i with
      | zero => simp at hu hs; subst hu; subst hs; exact h1
      | succ i => exact h2 i u s (by simpa using hu) (by simpa using hs)
    · intro h
      exact ⟨h 0 v t rfl rfl, fun i u s hu hs => h (i + 1) u s (by simpa using hu) (by simpa using hs)⟩
theorem right_iff (cs : List Bcol) (row : List Val) : rightB (cs.map Bcol.ty) row = true ↔ rowOk cs row := by
  unfold rightB rowOk
  rw [Bool.and_eq_true, fitsB_all, List.length_map, decide_eq_true_eq]
  constructor
  · rintro ⟨h1, h2⟩
    refine ⟨h1, fun i v c hv hc => ?_⟩
    have := h2 i v c.ty hv (by simp [hc])
    simpa [fitB] using this
  · rintro ⟨h1, h2⟩
    refine ⟨h1, fun i v t hv ht => ?_⟩
    simp only [List.getElem?_map, Option.map_eq_some_iff] at ht
    obtain ⟨c, hc, rfl⟩ := ht
    simpa [fitB] using h2 i v c hv hc
theorem right_len {ts : List Int} {row : List Val} (h : row.length ≠ ts.length) : rightB ts row = false := by simp [rightB, h]
theorem right_bad {ts : List Int} {row : List Val} {j : Nat} {v : Val} {t : Int} (hv : row[j]? = some v) (ht : ts[j]? = some t) (h : fitB v t = false) : rightB ts row = false := by
  cases hq : rightB ts row with
  | false => rfl
  | true =>
    unfold rightB at hq
    rw [Bool.and_eq_true, fitsB_all] at hq
    rw [hq.2 j v t hv ht] at h
    cases h
theorem right_good {ts : List Int} {row : List Val} (hl : row.length = ts.length) (h : ∀ (i : Nat) (v : Val) (t : Int), i < row.length → row[i]? = some v → ts[i]? = some t → fitB v t = true) : rightB ts row = true := by
  unfold rightB
  rw [Bool.and_eq_true, fitsB_all, decide_eq_true_eq]
  exact ⟨hl, fun i v t hv ht => h i v t (List.getElem?_eq_some_iff.1 hv).1 hv ht⟩
set_option maxRecDepth 100000 in
set_option maxHeartbeats 2000000 in
theorem right_any (row : List Val) (ts : List Int) (F G : Nat → Prop) (ao ao2 : Option Addr) (cap cap2 : Nat) (hm : row.length ≤ 100000000000000) (w : World) (h : ValsAt w F (.slice ao row.length cap) row) (h2 : RowAt w G (.slice ao2 ts.length cap2) ts.length (ts.map (Value.int .i64))) :
    Calls Tryz.prog 9 #[.slice ao row.length cap, .slice ao2 ts.length cap2] w fun e w' => e = .returned (.bool (rightB ts row)) ∧ Chg NoB w w' := by
  have H := Lib.hid h
  have H2 := Lib.hid h2
  clear h h2
  obtain ⟨Q, hQ⟩ : ∃ Q, rightB ts row = Q := ⟨_, rfl⟩
  rw [hQ]
  have HQ := Lib.hid hQ
  clear hQ
  by_cases hl : row.length = ts.length
  · have HL := Lib.hid hl
    rw [← hl] at H2 ⊢
    have hb : ((row.length : Int) != row.length) = false := by simp
    clear hl
    go_enter Tryz.func9, Tryz.ntmps9
    go_wp2_with fail
    go_loopw [5] (fun i wr => ∃ j : Nat, i = .int .i64 j ∧ j ≤ row.length ∧ Hid (Chg NoB w wr ∧ ∀ (i : Nat) (v : Val) (t : Int), i < j → row[i]? = some v → ts[i]? = some t → fitB v t = true)) (fun i _ => (row.length - intOf i).toNat)
    case atStart => exact ⟨0, rfl, Nat.zero_le _, Lib.hid ⟨Chg.refl _ _, fun i v t h => by omega⟩⟩
    case round =>
      obtain ⟨j, rfl, hj, HJ⟩ := hrel
      by_cases hlt : j < row.length
      · obtain ⟨v, hv⟩ : ∃ v, row[j]? = some v := ⟨_, List.getElem?_eq_getElem hlt⟩
        obtain ⟨ty, hty⟩ : ∃ t, ts[j]? = some t := ⟨_, List.getElem?_eq_getElem (by have := HL.out; omega)⟩
        obtain ⟨ao', cap', e, hh⟩ := H.out
        obtain ⟨b, o, rfl, hbl, hF, hr⟩ := hh (by omega)
        cases e
        obtain ⟨ao', cap', e, hh2⟩ := H2.out
        obtain ⟨b2, o2, rfl, hbl2, hG, hr2⟩ := hh2 (by omega)
        cases e
        have HX := Lib.hid HJ.out.1
        have HS : Hid (∀ V, Chg NoB wr V → V.cell? ⟨b, o + j * 3, none⟩ = some (.int .i64 v.kind) ∧ V.cell? ⟨b, o + j * 3 + 1, none⟩ = some (.int .i64 v.num) ∧ V.cell? ⟨b, o + j * 3 + 2, none⟩ = some (sv v.str) ∧ V.cell? ⟨b2, o2 + j, none⟩ = some (.int .i64 ty)) := Lib.hid fun V c => by
          have X := HX.out.trans c (fun _ h => .inl h)
          have q := range_of_heap (X.keep b hbl (fun h => h)) (range_elem (s := 3) hr (fun _ => rfl) hv)
          have q2 := range_of_heap (X.keep b2 hbl2 (fun h => h)) hr2
          exact ⟨q 0 _ rfl, q 1 _ rfl, q 2 _ rfl, q2 j _ (by simp [hty])⟩
        have hji : (j : Int) < row.length := by omega
        have HV := Lib.hid hv
        have HTY := Lib.hid hty
        obtain ⟨q, hq⟩ : ∃ q, okV v = q := ⟨_, rfl⟩
        have HOK := Lib.hid hq
        clear hv hty hh hh2 hr hr2 hq
        cases q with
        | false =>
          have HB : Hid (Q = false) := Lib.hid (by rw [← HQ.out]; exact right_bad HV.out HTY.out (by simp [fitB, HOK.out]))
          go_wp2_with fail
          refine wp_region_lex (fun V => V.cell? ⟨b, o + j * 3, none⟩ = some (.int .i64 v.kind) ∧ V.cell? ⟨b, o + j * 3 + 1, none⟩ = some (.int .i64 v.num) ∧ V.cell? ⟨b, o + j * 3 + 2, none⟩ = some (sv v.str) ∧ V.cell? ⟨b2, o2 + j, none⟩ = some (.int .i64 ty)) 99 [4] [0, 1, 2, 3, 4, 5, 6, 7, 8, 9, 10, 11, 12, 13, 14, 15, 16, 17, 18, 19, 20, 21, 22, 23, 24, 25] (by kernel_rfl) (by kernel_rfl) (HS.out _ (Chg.refl _ _).drew) ?_
          iterate 4
            refine' lex_free (v := _) rfl rfl rfl ?_ (fun _ _ _ h => h) ?_
            rotate_left
            · rintro W ⟨h1, h2, h3, h4⟩
              go_simp
              with_reducible rfl
            try simp only [Act.put, List.setIfInBounds_toArray, List.set_cons_zero, List.set_cons_succ]
          refine lex_op rfl rfl rfl (fun K hK => ?_)
          go_simp
          refine (rok_any v _).mono ?_
          rintro e w2 ⟨rfl, c2⟩
          have C2 := Lib.hid ((Chg.refl NoB wr).drew.trans c2 (fun _ h => .inl h))
          have X2 := Lib.hid (HX.out.trans C2.out (fun _ h => .inl h))
          rw [HOK.out]
          refine hK _ _ (fun _ => HS.out _ C2.out) ?_
          clear hK K
          try simp only [Act.put, List.setIfInBounds_toArray, List.set_cons_zero, List.set_cons_succ]
          iterate 2
            refine' lex_free (v := _) rfl rfl rfl ?_ (fun _ _ _ h => h) ?_
            rotate_left
            · rintro W ⟨h1, h2, h3, h4⟩
              go_simp
              with_reducible rfl
            try simp only [Act.put, List.setIfInBounds_toArray, List.set_cons_zero, List.set_cons_succ]
          iterate 7
            refine lex_skip rfl rfl rfl (fun _ _ _ h => h) ?_
            try simp only [Act.put, List.setIfInBounds_toArray, List.set_cons_zero, List.set_cons_succ]
          iterate 10
            refine lex_skip rfl rfl rfl (fun _ _ _ h => h) ?_
            try simp only [Act.put, List.setIfInBounds_toArray, List.set_cons_zero, List.set_cons_succ]
          iterate 1
            refine lex_skip rfl rfl rfl (fun _ _ _ h => h) ?_
            try simp only [Act.put, List.setIfInBounds_toArray, List.set_cons_zero, List.set_cons_succ]
          iterate 1
            refine' lex_free (v := _) rfl rfl rfl ?_ (fun _ _ _ h => h) ?_
            rotate_left
            · rintro W ⟨h1, h2, h3, h4⟩
              go_simp
              with_reducible rfl
            try simp only [Act.put, List.setIfInBounds_toArray, List.set_cons_zero, List.set_cons_succ]
          refine lex_nil ?_
          go_wp2_with fail
          go_ret
          exact ⟨by rw [HB.out]; rfl, X2.out⟩
        | true =>
          by_cases h0 : v.kind = 0
          · have b0 : (v.kind != 0) = false := by simp [h0]
            have HF : Hid (fitB v ty = true) := Lib.hid (by simp [fitB, HOK.out, h0])
            clear h0
            go_wp2_with fail
            refine wp_region_lex (fun V => V.cell? ⟨b, o + j * 3, none⟩ = some (.int .i64 v.kind) ∧ V.cell? ⟨b, o + j * 3 + 1, none⟩ = some (.int .i64 v.num) ∧ V.cell? ⟨b, o + j * 3 + 2, none⟩ = some (sv v.str) ∧ V.cell? ⟨b2, o2 + j, none⟩ = some (.int .i64 ty)) 99 [4] [0, 1, 2, 3, 4, 5, 6, 7, 8, 9, 10, 11, 12, 13, 14, 15, 16, 17, 18, 19, 20, 21, 22, 23, 24, 25] (by kernel_rfl) (by kernel_rfl) (HS.out _ (Chg.refl _ _).drew) ?_
            iterate 4
              refine' lex_free (v := _) rfl rfl rfl ?_ (fun _ _ _ h => h) ?_
              rotate_left
              · rintro W ⟨h1, h2, h3, h4⟩
                go_simp
                with_reducible rfl
              try simp only [Act.put, List.setIfInBounds_toArray, List.set_cons_zero, List.set_cons_succ]
            refine lex_op rfl rfl rfl (fun K hK => ?_)
            go_simp
            refine (rok_any v _).mono ?_
            rintro e w2 ⟨rfl, c2⟩
            have C2 := Lib.hid ((Chg.refl NoB wr).drew.trans c2 (fun _ h => .inl h))
            have X2 := Lib.hid (HX.out.trans C2.out (fun _ h => .inl h))
            rw [HOK.out]
            refine hK _ _ (fun _ => HS.out _ C2.out) ?_
            clear hK K
            try simp only [Act.put, List.setIfInBounds_toArray, List.set_cons_zero, List.set_cons_succ]
            iterate 2
              refine' lex_free (v := _) rfl rfl rfl ?_ (fun _ _ _ h => h) ?_
              rotate_left
              · rintro W ⟨h1, h2, h3, h4⟩
                go_simp
                with_reducible rfl
              try simp only [Act.put, List.setIfInBounds_toArray, List.set_cons_zero, List.set_cons_succ]
            iterate 7
              refine' lex_freeG (v := _) rfl rfl rfl ?_ (fun _ _ _ h => h) ?_
              rotate_left
              · rintro W ⟨h1, h2, h3, h4⟩
                go_simp
                with_reducible rfl
              try simp only [Act.put, List.setIfInBounds_toArray, List.set_cons_zero, List.set_cons_succ]
            iterate 10
              refine lex_skip rfl rfl rfl (fun _ _ _ h => h) ?_
              try simp only [Act.put, List.setIfInBounds_toArray, List.set_cons_zero, List.set_cons_succ]
            iterate 1
              refine' lex_freeG (v := _) rfl rfl rfl ?_ (fun _ _ _ h => h) ?_
              rotate_left
              · rintro W ⟨h1, h2, h3, h4⟩
                go_simp
                with_reducible rfl
              try simp only [Act.put, List.setIfInBounds_toArray, List.set_cons_zero, List.set_cons_succ]
            iterate 1
              refine' lex_free (v := _) rfl rfl rfl ?_ (fun _ _ _ h => h) ?_
              rotate_left
              · rintro W ⟨h1, h2, h3, h4⟩
                go_simp
                with_reducible rfl
              try simp only [Act.put, List.setIfInBounds_toArray, List.set_cons_zero, List.set_cons_succ]
            refine lex_nil ?_
            go_wp2_with fail
            go_round
            case rel => exact ⟨j + 1, by go_num, by omega, Lib.hid ⟨X2.out, fun i u t hi hu ht => by
              by_cases hij : i < j
              · exact HJ.out.2 i u t hij hu ht
              · obtain rfl : i = j := by omega
                rw [HV.out] at hu; cases hu
                rw [HTY.out] at ht; cases ht
                exact HF.out⟩⟩
            case measure => simp [intOf]; omega
          · have b0 : (v.kind != 0) = true := by simpa using h0
            by_cases h3 : v.kind = ty
            · have b3 : (v.kind != ty) = false := by simp [h3]
              have HF : Hid (fitB v ty = true) := Lib.hid (by simp [fitB, HOK.out, h3])
              clear h0 h3
              go_wp2_with fail
              refine wp_region_lex (fun V => V.cell? ⟨b, o + j * 3, none⟩ = some (.int .i64 v.kind) ∧ V.cell? ⟨b, o + j * 3 + 1, none⟩ = some (.int .i64 v.num) ∧ V.cell? ⟨b, o + j * 3 + 2, none⟩ = some (sv v.str) ∧ V.cell? ⟨b2, o2 + j, none⟩ = some (.int .i64 ty)) 99 [4] [0, 1, 2, 3, 4, 5, 6, 7, 8, 9, 10, 11, 12, 13, 14, 15, 16, 17, 18, 19, 20, 21, 22, 23, 24, 25] (by kernel_rfl) (by kernel_rfl) (HS.out _ (Chg.refl _ _).drew) ?_
              iterate 4
                refine' lex_free (v := _) rfl rfl rfl ?_ (fun _ _ _ h => h) ?_
                rotate_left
                · rintro W ⟨h1, h2, h3, h4⟩
                  go_simp
                  with_reducible rfl
                try simp only [Act.put, List.setIfInBounds_toArray, List.set_cons_zero, List.set_cons_succ]
              refine lex_op rfl rfl rfl (fun K hK => ?_)
              go_simp
              refine (rok_any v _).mono ?_
              rintro e w2 ⟨rfl, c2⟩
              have C2 := Lib.hid ((Chg.refl NoB wr).drew.trans c2 (fun _ h => .inl h))
              have X2 := Lib.hid (HX.out.trans C2.out (fun _ h => .inl h))
              rw [HOK.out]
              refine hK _ _ (fun _ => HS.out _ C2.out) ?_
              clear hK K
              try simp only [Act.put, List.setIfInBounds_toArray, List.set_cons_zero, List.set_cons_succ]
              iterate 2
                refine' lex_free (v := _) rfl rfl rfl ?_ (fun _ _ _ h => h) ?_
                rotate_left
                · rintro W ⟨h1, h2, h3, h4⟩
                  go_simp
                  with_reducible rfl
                try simp only [Act.put, List.setIfInBounds_toArray, List.set_cons_zero, List.set_cons_succ]
              iterate 7
                refine' lex_freeG (v := _) rfl rfl rfl ?_ (fun _ _ _ h => h) ?_
                rotate_left
                · rintro W ⟨h1, h2, h3, h4⟩
                  go_simp
                  with_reducible rfl
                try simp only [Act.put, List.setIfInBounds_toArray, List.set_cons_zero, List.set_cons_succ]
              iterate 10
                refine' lex_freeG (v := _) rfl rfl rfl ?_ (fun _ _ _ h => h) ?_
                rotate_left
                · rintro W ⟨h1, h2, h3, h4⟩
                  go_simp
                  with_reducible rfl
                try simp only [Act.put, List.setIfInBounds_toArray, List.set_cons_zero, List.set_cons_succ]
              iterate 1
                refine' lex_freeG (v := _) rfl rfl rfl ?_ (fun _ _ _ h => h) ?_
                rotate_left
                · rintro W ⟨h1, h2, h3, h4⟩
                  go_simp
                  with_reducible rfl
                try simp only [Act.put, List.setIfInBounds_toArray, List.set_cons_zero, List.set_cons_succ]
              iterate 1
                refine' lex_free (v := _) rfl rfl rfl ?_ (fun _ _ _ h => h) ?_
                rotate_left
                · rintro W ⟨h1, h2, h3, h4⟩
                  go_simp
                  with_reducible rfl
                try simp only [Act.put, List.setIfInBounds_toArray, List.set_cons_zero, List.set_cons_succ]
              refine lex_nil ?_
              go_wp2_with fail
              go_round
              case rel => exact ⟨j + 1, by go_num, by omega, Lib.hid ⟨X2.out, fun i u t hi hu ht => by
                by_cases hij : i < j
                · exact HJ.out.2 i u t hij hu ht
                · obtain rfl : i = j := by omega
                  rw [HV.out] at hu; cases hu
                  rw [HTY.out] at ht; cases ht
                  exact HF.out⟩⟩
              case measure => simp [intOf]; omega
            · have b3 : (v.kind != ty) = true := by simpa using h3
              have HB : Hid (Q = false) := Lib.hid (by rw [← HQ.out]; exact right_bad HV.out HTY.out (by simp [fitB, h0, h3]))
              clear h0 h3
              go_wp2_with fail
              refine wp_region_lex (fun V => V.cell? ⟨b, o + j * 3, none⟩ = some (.int .i64 v.kind) ∧ V.cell? ⟨b, o + j * 3 + 1, none⟩ = some (.int .i64 v.num) ∧ V.cell? ⟨b, o + j * 3 + 2, none⟩ = some (sv v.str) ∧ V.cell? ⟨b2, o2 + j, none⟩ = some (.int .i64 ty)) 99 [4] [0, 1, 2, 3, 4, 5, 6, 7, 8, 9, 10, 11, 12, 13, 14, 15, 16, 17, 18, 19, 20, 21, 22, 23, 24, 25] (by kernel_rfl) (by kernel_rfl) (HS.out _ (Chg.refl _ _).drew) ?_
              iterate 4
                refine' lex_free (v := _) rfl rfl rfl ?_ (fun _ _ _ h => h) ?_
                rotate_left
                · rintro W ⟨h1, h2, h3, h4⟩
                  go_simp
                  with_reducible rfl
                try simp only [Act.put, List.setIfInBounds_toArray, List.set_cons_zero, List.set_cons_succ]
              refine lex_op rfl rfl rfl (fun K hK => ?_)
              go_simp
              refine (rok_any v _).mono ?_
              rintro e w2 ⟨rfl, c2⟩
              have C2 := Lib.hid ((Chg.refl NoB wr).drew.trans c2 (fun _ h => .inl h))
              have X2 := Lib.hid (HX.out.trans C2.out (fun _ h => .inl h))
              rw [HOK.out]
              refine hK _ _ (fun _ => HS.out _ C2.out) ?_
              clear hK K
              try simp only [Act.put, List.setIfInBounds_toArray, List.set_cons_zero, List.set_cons_succ]
              iterate 2
                refine' lex_free (v := _) rfl rfl rfl ?_ (fun _ _ _ h => h) ?_
                rotate_left
                · rintro W ⟨h1, h2, h3, h4⟩
                  go_simp
                  with_reducible rfl
                try simp only [Act.put, List.setIfInBounds_toArray, List.set_cons_zero, List.set_cons_succ]
              iterate 7
                refine' lex_freeG (v := _) rfl rfl rfl ?_ (fun _ _ _ h => h) ?_
                rotate_left
                · rintro W ⟨h1, h2, h3, h4⟩
                  go_simp
                  with_reducible rfl
                try simp only [Act.put, List.setIfInBounds_toArray, List.set_cons_zero, List.set_cons_succ]
              iterate 10
                refine' lex_freeG (v := _) rfl rfl rfl ?_ (fun _ _ _ h => h) ?_
                rotate_left
                · rintro W ⟨h1, h2, h3, h4⟩
                  go_simp
                  with_reducible rfl
                try simp only [Act.put, List.setIfInBounds_toArray, List.set_cons_zero, List.set_cons_succ]
              iterate 1
                refine' lex_freeG (v := _) rfl rfl rfl ?_ (fun _ _ _ h => h) ?_
                rotate_left
                · rintro W ⟨h1, h2, h3, h4⟩
                  go_simp
                  with_reducible rfl
                try simp only [Act.put, List.setIfInBounds_toArray, List.set_cons_zero, List.set_cons_succ]
              iterate 1
                refine' lex_free (v := _) rfl rfl rfl ?_ (fun _ _ _ h => h) ?_
                rotate_left
                · rintro W ⟨h1, h2, h3, h4⟩
                  go_simp
                  with_reducible rfl
                try simp only [Act.put, List.setIfInBounds_toArray, List.set_cons_zero, List.set_cons_succ]
              refine lex_nil ?_
              go_wp2_with fail
              go_ret
              exact ⟨by rw [HB.out]; rfl, X2.out⟩
      · obtain rfl : j = row.length := by omega
        have HB : Hid (Q = true) := Lib.hid (by rw [← HQ.out]; exact right_good HL.out HJ.out.2)
        go_wp2_with fail
        go_ret
        exact ⟨by rw [HB.out]; rfl, HJ.out.1⟩
  · have HB : Hid (Q = false) := Lib.hid (by rw [← HQ.out]; exact right_len hl)
    have hb : ((row.length : Int) != ts.length) = true := by simp; omega
    clear hl
    go_enter Tryz.func9, Tryz.ntmps9
    go_wp2_with fail
    go_ret
    exact ⟨by rw [HB.out]; rfl, Chg.refl _ _⟩
end Go.Proofs.YtnbckfkdmkbopaaGreatDoor
