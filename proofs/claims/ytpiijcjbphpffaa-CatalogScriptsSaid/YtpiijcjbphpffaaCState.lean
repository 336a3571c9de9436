/-
  Three catalogs beside the document's, in memory apart: every block has a colour. No condition beyond each lemma's own.
-/
import Derived.Test.YtpiijcjbphpffaaCAlike
import Derived.Test.YtpiijcjbphpffaaCRAddI
import Derived.Test.YtpiijcjbphpffaaCLike
set_option autoImplicit false
namespace Go.Proofs.Ytpiijcjbphpffaa
open Go Go.RowKit

theorem quiet_of' {F : Nat → Prop} {w w1 w2 : World} (h : Chg (fun _ => False) w w1) (c : Chg F w1 w2) (hF : ∀ g, F g → w.heap.size ≤ g) : Chg (fun _ => False) w w2 :=
  ((h.mono (G := fun g => w.heap.size ≤ g) (fun _ h => h.elim)).trans c (fun g h => .inl (hF g h))).mono (fun _ h => .inr h)
/-- number k: none, or a catalog and the document's that is like it; c: whose a block is -/
def One (w : World) (c : Nat → Nat) (B k : Nat) (hv wv : Value) : Option Cat → Prop
  | none => hv = .pointer none ∧ wv = .pointer none
  | some C => C.bud ∧ ∃ rc rr vt vi K D, hv = .pointer (some ⟨rc, 0, none⟩) ∧ wv = .pointer (some ⟨rr, 0, none⟩) ∧ CatAt w rc (fun g => c g = k + 1) D ∧ Like C D ∧ RAt w B rr K vt vi C ∧ (∀ g, RF rr vt vi g → c g = k + 4) ∧ (∀ g, K g → c g = 7)
theorem One.chg {w w' : World} {c c' : Nat → Nat} {B k : Nat} {hv wv : Value} {o : Option Cat} {P : Nat → Prop} (h : One w c B k hv wv o) (x : Chg P w w') (hP : ∀ g, P g → c g ≠ k + 1 ∧ c g ≠ k + 4 ∧ c g ≠ 7) (hc : ∀ g, g < w.heap.size → c' g = c g) : One w' c' B k hv wv o := by
  cases o with
  | none => exact h
  | some C =>
    obtain ⟨hb, rc, rr, vt, vi, K, D, rfl, rfl, h1, h2, h3, h4, h5⟩ := h
    refine ⟨hb, rc, rr, vt, vi, K, D, rfl, rfl, ?_, h2, h3.chg x (fun g hg hp => (hP g hp).2.1 (h4 g hg)) (fun g hg hp => (hP g hp).2.2 (h5 g hg)), fun g hg => by rw [hc g (h3.rf g hg).2]; exact h4 g hg, fun g hg => by rw [hc g (h3.k_lt g hg)]; exact h5 g hg⟩
    have h6 := h1.mono (G := fun g => c g = k + 1 ∧ g < w.heap.size) (fun g hg hl => ⟨hg, hl⟩)
    exact (h6.chg x (fun g hg hp => (hP g hp).1 hg.1)).mono (fun g hg _ => by show c' g = k + 1; rw [hc g hg.2]; exact hg.1)
structure St (w0 w : World) (c : Nat → Nat) (hb wb : Nat) (hv wv : Nat → Value) (o : Nat → Option Cat) : Prop where
  hcell : w.heap[hb]? = some (.cells #[hv 0, hv 1, hv 2] 56 (0, 0))
  wcell : w.heap[wb]? = some (.cells #[wv 0, wv 1, wv 2] 59 (0, 0))
  chb : c hb = 8
  cwb : c wb = 9
  each : ∀ k, k < 3 → One w c w0.heap.size k (hv k) (wv k) (o k)
  lo : ∀ g, c g ≠ 0 → w0.heap.size ≤ g ∧ g < w.heap.size
  chg : Chg (fun _ => False) w0 w
section
variable {w0 w w' : World} {c c' : Nat → Nat} {hb wb : Nat} {hv wv : Nat → Value} {o : Nat → Option Cat} {P : Nat → Prop}
theorem St.quiet (h : St w0 w c hb wb hv wv o) (x : Chg (fun _ => False) w w') : St w0 w' c hb wb hv wv o :=
  ⟨x.heap h.hcell (fun h => h), x.heap h.wcell (fun h => h), h.chb, h.cwb, fun k hk => (h.each k hk).chg x (fun _ h => h.elim) (fun _ _ => rfl), fun g hg => ⟨(h.lo g hg).1, Nat.lt_of_lt_of_le (h.lo g hg).2 x.size⟩, h.chg.trans x (fun _ h => h.elim)⟩
/-- a write to blocks that are nobody's -/
theorem St.aside (h : St w0 w c hb wb hv wv o) (x : Chg P w w') (hP : ∀ g, P g → c g = 0 ∧ w0.heap.size ≤ g) : St w0 w' c hb wb hv wv o := by
  have hn : ∀ g, P g → c g = 0 := fun g hg => (hP g hg).1
  refine ⟨x.heap h.hcell (fun hp => ?_), x.heap h.wcell (fun hp => ?_), h.chb, h.cwb, fun k hk => (h.each k hk).chg x (fun g hg => ?_) (fun _ _ => rfl), fun g hg => ⟨(h.lo g hg).1, Nat.lt_of_lt_of_le (h.lo g hg).2 x.size⟩, quiet_of' h.chg x (fun g hg => (hP g hg).2)⟩
  · have := hn _ hp; rw [h.chb] at this; omega
  · have := hn _ hp; rw [h.cwb] at this; omega
  · have := hn _ hg; omega
theorem St.cells (h : St w0 w c hb wb hv wv o) {k : Nat} (hk : k < 3) : w.cell? ⟨hb, k, none⟩ = some (hv k) ∧ w.cell? ⟨wb, k, none⟩ = some (wv k) := by
  have h1 := cell_of_row w hb k _ _ _ h.hcell
  have h2 := cell_of_row w wb k _ _ _ h.wcell
  match k, hk with
  | 0, _ => exact ⟨h1, h2⟩
  | 1, _ => exact ⟨h1, h2⟩
  | 2, _ => exact ⟨h1, h2⟩
/-- number k becomes another one -/
theorem St.upd (h : St w0 w c hb wb hv wv o) {k : Nat} (hk : k < 3) (x : Chg P w w') (hP : ∀ g, P g → c g = k + 1 ∨ c g = k + 4) (hc : ∀ g, g < w.heap.size → c' g = c g) (hlo : ∀ g, c' g ≠ 0 → g < w'.heap.size) (hn : ∀ g, w.heap.size ≤ g → c' g ≠ 0 → w0.heap.size ≤ g) {o' : Option Cat} (hnew : One w' c' w0.heap.size k (hv k) (wv k) o') :
    St w0 w' c' hb wb hv wv (fun j => if j = k then o' else o j) := by
  have hhb := lt_of_heap h.hcell
  have hwb := lt_of_heap h.wcell
  refine ⟨x.heap h.hcell (fun hp => ?_), x.heap h.wcell (fun hp => ?_), by rw [hc hb hhb]; exact h.chb, by rw [hc wb hwb]; exact h.cwb, fun j hj => ?_, fun g hg => ⟨?_, hlo g hg⟩, quiet_of' h.chg x (fun g hg => ?_)⟩
  · have := hP _ hp; rw [h.chb] at this; omega
  · have := hP _ hp; rw [h.cwb] at this; omega
  · by_cases hjk : j = k
    · subst hjk
      simp only [if_true]
      exact hnew
    · simp only [if_neg hjk]
      exact (h.each j hj).chg x (fun g hg => by have := hP g hg; omega) hc
  · by_cases hg2 : g < w.heap.size
    · exact (h.lo g (by rw [← hc g hg2]; exact hg)).1
    · exact hn g (by omega) hg
  · have := hP g hg
    exact (h.lo g (by omega)).1
/-- number k is put in another one's place -/
theorem St.put (h : St w0 w c hb wb hv wv o) {k : Nat} (x : Chg P w w') (hP : ∀ g, P g → g = hb ∨ g = wb ∨ (c g = 0 ∧ w0.heap.size ≤ g)) (hc : ∀ g, g < w.heap.size → c' g = c g) (hlo : ∀ g, c' g ≠ 0 → g < w'.heap.size) (hn : ∀ g, w.heap.size ≤ g → c' g ≠ 0 → w0.heap.size ≤ g) {hv' wv' : Nat → Value} {o' : Option Cat}
    (e1 : w'.heap[hb]? = some (.cells #[hv' 0, hv' 1, hv' 2] 56 (0, 0))) (e2 : w'.heap[wb]? = some (.cells #[wv' 0, wv' 1, wv' 2] 59 (0, 0))) (hh : ∀ j, j ≠ k → hv' j = hv j) (hw : ∀ j, j ≠ k → wv' j = wv j) (hnew : One w' c' w0.heap.size k (hv' k) (wv' k) o') :
    St w0 w' c' hb wb hv' wv' (fun j => if j = k then o' else o j) := by
  have hhb := lt_of_heap h.hcell
  have hwb := lt_of_heap h.wcell
  refine ⟨e1, e2, by rw [hc hb hhb]; exact h.chb, by rw [hc wb hwb]; exact h.cwb, fun j hj => ?_, fun g hg => ⟨?_, hlo g hg⟩, quiet_of' h.chg x (fun g hg => ?_)⟩
  · by_cases hjk : j = k
    · subst hjk
      simp only [if_true]
      exact hnew
    · simp only [if_neg hjk]
      rw [hh j hjk, hw j hjk]
      refine (h.each j hj).chg x (fun g hg => ?_) hc
      rcases hP g hg with rfl | rfl | ⟨h0, _⟩
      · rw [h.chb]; omega
      · rw [h.cwb]; omega
      · rw [h0]; omega
  · by_cases hg2 : g < w.heap.size
    · exact (h.lo g (by rw [← hc g hg2]; exact hg)).1
    · exact hn g (by omega) hg
  · rcases hP g hg with rfl | rfl | ⟨_, h1⟩
    · exact (h.lo g (by rw [h.chb]; omega)).1
    · exact (h.lo g (by rw [h.cwb]; omega)).1
    · exact h1
open Classical in
/-- AddTable on both -/
theorem St.addT (h : St w0 w c hb wb hv wv o) {k : Nat} (hk : k < 3) {rc rr : Nat} {vt vi : Value} {K : Nat → Prop} {C D : Cat} {t : Tab} {w1 w1' w2 : World} (hbud : C.bud) (hL : Like C D) (hr : RAt w w0.heap.size rr K vt vi C) (hRF : ∀ g, RF rr vt vi g → c g = k + 4) (hK : ∀ g, K g → c g = 7)
    (h1 : CatAt w1 rc (Ext (fun g => c g = k + 1 ∧ g < w.heap.size) w w1) (D.addT t)) (x1 : Chg (fun g => c g = k + 1 ∧ g < w.heap.size) w w1) (xq : Chg (fun _ => False) w1 w1') (h2 : AddTPost w1' w0.heap.size rr K vt vi C t w2) (e1 : hv k = .pointer (some ⟨rc, 0, none⟩)) (e2 : wv k = .pointer (some ⟨rr, 0, none⟩)) :
    ∃ c', St w0 w2 c' hb wb hv wv (fun j => if j = k then some (C.addT t) else o j) ∧ ∀ g, g < w.heap.size → c' g = c g := by
  obtain ⟨vt', K', r2, x2, hvt, hK'⟩ := h2
  have s1 := x1.size
  have s2 := xq.size
  have s3 := x2.size
  have s0 := h.chg.size
  have hrf := hr.rf
  have hrf2 := r2.rf
  refine ⟨fun g => if g < w.heap.size then c g else if g < w1.heap.size then k + 1 else if g < w2.heap.size then (if K' g then 7 else k + 4) else 0, ⟨?_, fun g hg => by simp only [if_pos hg]⟩⟩
  refine (h.upd (P := fun g => c g = k + 1 ∨ c g = k + 4) hk ?_ (fun g hg => hg) (fun g hg => by simp only [if_pos hg]) (fun g hg => ?_) (fun g hg _ => by omega) ?_)
  · refine ((x1.mono (G := fun g => c g = k + 1 ∨ c g = k + 4) (fun g hg => .inl (.inl hg.1))).trans xq (fun _ h => h.elim)).trans x2 (fun g hg => .inl (.inr (hRF g hg)))
  · by_cases hg1 : g < w.heap.size
    · omega
    · simp only [if_neg hg1] at hg
      by_cases hg2 : g < w1.heap.size
      · omega
      · simp only [if_neg hg2] at hg
        by_cases hg3 : g < w2.heap.size
        · exact hg3
        · simp only [if_neg hg3] at hg
          exact absurd rfl hg
  · refine ⟨hbud.addT hr.ok t, rc, rr, vt', vi, K', D.addT t, e1, e2, ?_, hL.addT hr.ok t, r2, fun g hg => ?_, fun g hg => ?_⟩
    · refine ((h1.quiet xq).chg x2 (fun g hg hp => ?_)).mono (fun g hg hl => ?_)
      · have a1 := hRF g hp
        have a2 := (hrf g hp).2
        rcases hg with ⟨h3, _⟩ | ⟨h3, _⟩ <;> omega
      · show (if g < w.heap.size then c g else _) = k + 1
        rcases hg with ⟨h3, h4⟩ | ⟨h3, h4⟩
        · rw [if_pos h4]; exact h3
        · rw [if_neg (by omega), if_pos h4]
    · show (if g < w.heap.size then c g else _) = k + 4
      have a1 := (hrf2 g hg).2
      have old : ∀ g, RF rr vt vi g → (if g < w.heap.size then c g else if g < w1.heap.size then k + 1 else if g < w2.heap.size then (if K' g then 7 else k + 4) else 0) = k + 4 := fun g hg => by rw [if_pos (hrf g hg).2]; exact hRF g hg
      rcases hg with hg | hg | hg
      · exact old g (.inl hg)
      · rcases hvt g hg with h3 | h3
        · exact old g (.inr (.inl h3))
        · have hnk : ¬ K' g := fun hk => (r2.out g hk).2.1 hg
          rw [if_neg (by omega), if_neg (by omega), if_pos a1, if_neg hnk]
      · exact old g (.inr (.inr hg))
    · show (if g < w.heap.size then c g else _) = 7
      have a1 := r2.k_lt g hg
      rcases hK' g hg with h3 | h3
      · rw [if_pos (hr.k_lt g h3)]; exact hK g h3
      · rw [if_neg (by omega), if_neg (by omega), if_pos a1, if_pos hg]
/-- AddIndex on both -/
theorem St.addI (h : St w0 w c hb wb hv wv o) {k : Nat} (hk : k < 3) {rc rr : Nat} {vt vi : Value} {K : Nat → Prop} {C D : Cat} {n t cn : ByteArray} {b : Bool} {w1 w1' w2 : World} (hbud : C.bud) (hL : Like C D) (hr : RAt w w0.heap.size rr K vt vi C) (hRF : ∀ g, RF rr vt vi g → c g = k + 4) (hK : ∀ g, K g → c g = 7)
    (h1 : CatAt w1 rc (fun g => c g = k + 1 ∧ g < w.heap.size) (D.addI n t cn b)) (x1 : Chg (fun g => c g = k + 1 ∧ g < w.heap.size) w w1) (xq : Chg (fun _ => False) w1 w1') (h2 : AddIPost w1' w0.heap.size rr K vt vi C n t cn b w2) (e1 : hv k = .pointer (some ⟨rc, 0, none⟩)) (e2 : wv k = .pointer (some ⟨rr, 0, none⟩)) :
    ∃ c', St w0 w2 c' hb wb hv wv (fun j => if j = k then some (C.addI n t cn b) else o j) := by
  obtain ⟨vi', r2, x2, hvi⟩ := h2
  have s1 := x1.size
  have s2 := xq.size
  have s3 := x2.size
  have s0 := h.chg.size
  have hrf := hr.rf
  have hrf2 := r2.rf
  refine ⟨fun g => if g < w.heap.size then c g else if g < w2.heap.size then k + 4 else 0, h.upd (P := fun g => c g = k + 1 ∨ c g = k + 4) hk ?_ (fun g hg => hg) (fun g hg => by simp only [if_pos hg]) (fun g hg => ?_) (fun g hg _ => by omega) ?_⟩
  · refine ((x1.mono (G := fun g => c g = k + 1 ∨ c g = k + 4) (fun g hg => .inl (.inl hg.1))).trans xq (fun _ h => h.elim)).trans x2 (fun g hg => .inl (.inr ?_))
    rcases hg with hg | hg
    · exact hRF g (.inl hg)
    · exact hRF g (.inr (.inr hg))
  · by_cases hg1 : g < w.heap.size
    · omega
    · simp only [if_neg hg1] at hg
      by_cases hg3 : g < w2.heap.size
      · exact hg3
      · simp only [if_neg hg3] at hg
        exact absurd rfl hg
  · refine ⟨hbud.addI n t cn b, rc, rr, vt, vi', K, D.addI n t cn b, e1, e2, ?_, hL.addI hr.ok n t cn b, r2, fun g hg => ?_, fun g hg => ?_⟩
    · refine ((h1.quiet xq).chg x2 (fun g hg hp => ?_)).mono (fun g hg hl => ?_)
      · have a1 : c g = k + 4 := by
          rcases hp with hp | hp
          · exact hRF g (.inl hp)
          · exact hRF g (.inr (.inr hp))
        have := hg.1
        omega
      · show (if g < w.heap.size then c g else _) = k + 1
        rw [if_pos hg.2]; exact hg.1
    · show (if g < w.heap.size then c g else _) = k + 4
      have a1 := (hrf2 g hg).2
      have old : ∀ g, RF rr vt vi g → (if g < w.heap.size then c g else if g < w2.heap.size then k + 4 else 0) = k + 4 := fun g hg => by rw [if_pos (hrf g hg).2]; exact hRF g hg
      rcases hg with hg | hg | hg
      · exact old g (.inl hg)
      · exact old g (.inr (.inl hg))
      · rcases hvi g hg with h3 | h3
        · exact old g (.inr (.inr h3))
        · rw [if_neg (by omega), if_pos a1]
    · show (if g < w.heap.size then c g else _) = 7
      rw [if_pos (hr.k_lt g hg)]; exact hK g hg
theorem arr3 {f : Nat → Value} {k : Nat} (hk : k < 3) (v : Value) : (#[f 0, f 1, f 2] : Array Value).setIfInBounds k v = #[if 0 = k then v else f 0, if 1 = k then v else f 1, if 2 = k then v else f 2] := by
  match k, hk with
  | 0, _ => rfl
  | 1, _ => rfl
  | 2, _ => rfl
theorem arr3_at {f : Nat → Value} {k n : Nat} (hk : k < 3) (hn : n < 3) (hne : n ≠ k) (v : Value) : ((#[f 0, f 1, f 2] : Array Value).setIfInBounds k v)[n]? = some (f n) := by
  match k, n, hk, hn, hne with
  | 0, 1, _, _, _ => rfl
  | 0, 2, _, _, _ => rfl
  | 1, 0, _, _, _ => rfl
  | 1, 2, _, _, _ => rfl
  | 2, 0, _, _, _ => rfl
  | 2, 1, _, _, _ => rfl
  | 0, 0, _, _, h => exact absurd rfl h
  | 1, 1, _, _, h => exact absurd rfl h
  | 2, 2, _, _, h => exact absurd rfl h
theorem arr3_self {f : Nat → Value} {k : Nat} (hk : k < 3) (v : Value) : ((#[f 0, f 1, f 2] : Array Value).setIfInBounds k v)[k]? = some v := by
  match k, hk with
  | 0, _ => rfl
  | 1, _ => rfl
  | 2, _ => rfl
theorem arr3_twice {f : Nat → Value} (k : Nat) (v u : Value) : ((#[f 0, f 1, f 2] : Array Value).setIfInBounds k v).setIfInBounds k u = (#[f 0, f 1, f 2] : Array Value).setIfInBounds k u := by
  rw [Array.setIfInBounds_setIfInBounds]
theorem St.put2 (h : St w0 w c hb wb hv wv o) {k : Nat} (hk : k < 3) (x : Chg P w w') (hP : ∀ g, P g → g = hb ∨ g = wb ∨ (c g = 0 ∧ w0.heap.size ≤ g)) (hc : ∀ g, g < w.heap.size → c' g = c g) (hlo : ∀ g, c' g ≠ 0 → g < w'.heap.size) {vh vw : Value} {o' : Option Cat}
    (e1 : w'.heap[hb]? = some (.cells ((#[hv 0, hv 1, hv 2] : Array Value).setIfInBounds k vh) 56 (0, 0))) (e2 : w'.heap[wb]? = some (.cells ((#[wv 0, wv 1, wv 2] : Array Value).setIfInBounds k vw) 59 (0, 0))) (hnew : One w' c' w0.heap.size k vh vw o') :
    St w0 w' c' hb wb (fun j => if j = k then vh else hv j) (fun j => if j = k then vw else wv j) (fun j => if j = k then o' else o j) := by
  rw [arr3 hk] at e1 e2
  refine h.put (k := k) x hP hc hlo (fun g hg _ => by have := h.chg.size; omega) e1 e2 (fun j hj => if_neg hj) (fun j hj => if_neg hj) ?_
  simp only [if_true]
  exact hnew
/-- the law's comparison at number k -/
theorem One.alike {B k : Nat} {hv wv : Value} {o : Option Cat} (h : One w c B k hv wv o) : Calls Try.prog 17 #[hv, wv] w fun e w' => e = .returned (.bool true) ∧ Chg (fun _ => False) w w' := by
  cases o with
  | none =>
    obtain ⟨rfl, rfl⟩ := h
    exact alike_nil w
  | some C =>
    obtain ⟨_, rc, rr, vt, vi, K, D, rfl, rfl, h1, h2, h3, _, _⟩ := h
    exact alike_like rc _ D C _ rr K vt vi w h1 h3 h2
end
end Go.Proofs.Ytpiijcjbphpffaa
