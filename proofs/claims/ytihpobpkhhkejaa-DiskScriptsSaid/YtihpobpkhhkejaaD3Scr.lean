/-
  Three disks, and three of the document's, in two arrays of one's own. No condition beyond each lemma's own.
-/
import Derived.Test.YtihpobpkhhkejaaD3RightN
set_option autoImplicit false
namespace Go.Proofs.Ytihpobpkhhkejaa
open Go Go.RowKit

/-- a disk and the document's, or none and none -/
def PV (w : World) (hv uv : Value) (F : Nat → Prop) : Option Dsk → Prop
  | none => hv = .pointer none ∧ uv = .pointer none
  | some D => ∃ d r A B, hv = .pointer (some ⟨d, 0, none⟩) ∧ uv = .pointer (some ⟨r, 0, none⟩) ∧ Duo w d r A B D ∧ (∀ k, A k → F k) ∧ (∀ k, B k → F k)
theorem PV.chg {w w' : World} {hv uv : Value} {F G : Nat → Prop} {o : Option Dsk} (h : PV w hv uv F o) (c : Chg G w w') (hG : ∀ k, F k → ¬ G k) : PV w' hv uv F o := by
  cases o with
  | none => exact h
  | some D =>
    obtain ⟨d, r, A, B, h1, h2, h3, h4, h5⟩ := h
    exact ⟨d, r, A, B, h1, h2, h3.chg c (fun k hg => ⟨fun ha => hG k (h4 k ha) hg, fun hb => hG k (h5 k hb) hg⟩), h4, h5⟩
def Arr (w : World) (g : Nat) (t : TypeId) (v : Nat → Value) : Prop := ∃ cs, w.heap[g]? = some (.cells cs t (0, 0)) ∧ cs.size = 3 ∧ ∀ j, j < 3 → cs[j]? = some (v j)
theorem Arr.chg {w w' : World} {g : Nat} {t : TypeId} {v : Nat → Value} {G : Nat → Prop} (h : Arr w g t v) (c : Chg G w w') (hG : ¬ G g) : Arr w' g t v := by
  obtain ⟨cs, h1, h2⟩ := h
  exact ⟨cs, c.heap h1 hG, h2⟩
theorem Arr.cell {w : World} {g : Nat} {t : TypeId} {v : Nat → Value} (h : Arr w g t v) {j : Nat} (hj : j < 3) : w.cell? ⟨g, j, none⟩ = some (v j) := by
  obtain ⟨cs, h1, _, h3⟩ := h
  rw [cell_of_row w g j _ _ _ h1, h3 j hj]
theorem Arr.free {w : World} {g : Nat} {t : TypeId} {v : Nat → Value} (h : Arr w g t v) (j : Nat) : w.frozen? ⟨g, j, none⟩ = false := by
  obtain ⟨cs, h1, _, _⟩ := h
  exact frozen_of_row w g j _ _ h1
theorem Arr.lt {w : World} {g : Nat} {t : TypeId} {v : Nat → Value} (h : Arr w g t v) : g < w.heap.size := by
  obtain ⟨cs, h1, _, _⟩ := h
  exact lt_of_heap h1
def vupd (v : Nat → Value) (j : Nat) (x : Value) (i : Nat) : Value := if i = j then x else v i
theorem Arr.set {w : World} {g : Nat} {t : TypeId} {v : Nat → Value} (h : Arr w g t v) (j : Nat) (x : Value) : Arr (w.setCell ⟨g, j, none⟩ x) g t (vupd v j x) := by
  obtain ⟨cs, h1, h2, h3⟩ := h
  refine ⟨_, hset_eq h1, by simpa using h2, fun i hi => ?_⟩
  rw [Array.getElem?_setIfInBounds]
  unfold vupd
  by_cases hij : j = i
  · subst hij; rw [if_pos rfl, if_pos (by omega), if_pos rfl]
  · rw [if_neg hij, h3 i hi, if_neg (by omega)]
structure Tri (w : World) (B0 hb wb : Nat) (hv uv : Nat → Value) (o : Nat → Option Dsk) (F : Nat → Nat → Prop) : Prop where
  have_ : Arr w hb 49 hv
  want : Arr w wb 52 uv
  pv : ∀ j, j < 3 → PV w (hv j) (uv j) (F j) (o j)
  out : ∀ j, j < 3 → ∀ k, F j k → B0 ≤ k ∧ k ≠ hb ∧ k ≠ wb
  sep : ∀ i j, i < 3 → j < 3 → i ≠ j → ∀ k, F i k → ¬ F j k
  lb : ∀ j, j < 3 → ∀ k, F j k → k < w.heap.size
  ghb : B0 ≤ hb
  gwb : B0 ≤ wb
  ne : hb ≠ wb
theorem Tri.chg {w w' : World} {B0 hb wb : Nat} {hv uv : Nat → Value} {o : Nat → Option Dsk} {F : Nat → Nat → Prop} {G : Nat → Prop} (h : Tri w B0 hb wb hv uv o F) (c : Chg G w w') (hG : ∀ k, G k → k ≠ hb ∧ k ≠ wb ∧ ∀ j, j < 3 → ¬ F j k) : Tri w' B0 hb wb hv uv o F :=
  ⟨h.have_.chg c (fun hg => (hG _ hg).1 rfl), h.want.chg c (fun hg => (hG _ hg).2.1 rfl), fun j hj => (h.pv j hj).chg c (fun k hk hg => (hG k hg).2.2 j hj hk), h.out, h.sep, fun j hj k hk => Nat.lt_of_lt_of_le (h.lb j hj k hk) c.size, h.ghb, h.gwb, h.ne⟩
theorem Tri.quiet {w w' : World} {B0 hb wb : Nat} {hv uv : Nat → Value} {o : Nat → Option Dsk} {F : Nat → Nat → Prop} (h : Tri w B0 hb wb hv uv o F) (c : Chg (fun _ => False) w w') : Tri w' B0 hb wb hv uv o F := h.chg c (fun _ h => h.elim)
def oupd (o : Nat → Option Dsk) (j : Nat) (x : Option Dsk) (i : Nat) : Option Dsk := if i = j then x else o i
/-- pair j is called -/
theorem Tri.step {w w' : World} {B0 hb wb : Nat} {hv uv : Nat → Value} {o : Nat → Option Dsk} {F : Nat → Nat → Prop} (h : Tri w B0 hb wb hv uv o F) (hB : B0 ≤ w.heap.size) {m : Nat} (hm : m < 3) {d r : Nat} {A B A' B' : Nat → Prop} {E : Dsk}
    (hh : hv m = .pointer (some ⟨d, 0, none⟩)) (hu : uv m = .pointer (some ⟨r, 0, none⟩)) (hA : ∀ k, A k → F m k) (hB' : ∀ k, B k → F m k) (x : Duo2 w d r A B E w' A' B') :
    ∃ F', Tri w' B0 hb wb hv uv (oupd o m (some E)) F' ∧ From B0 w w' := by
  have hG : ∀ k, A k ∨ B k → F m k := fun k hk => hk.elim (hA k) (hB' k)
  have z := x.chg.size
  have zh := h.have_.lt
  have zw := h.want.lt
  refine ⟨fun j k => if j = m then F m k ∨ (w.heap.size ≤ k ∧ k < w'.heap.size) else F j k, ⟨h.have_.chg x.chg (fun hg => (h.out m hm _ (hG _ hg)).2.1 rfl), h.want.chg x.chg (fun hg => (h.out m hm _ (hG _ hg)).2.2 rfl), fun j hj => ?_, fun j hj k hk => ?_, fun i j hi hj hij k hk hk2 => ?_, fun j hj k hk => ?_, h.ghb, h.gwb, h.ne⟩, x.chg.mono (fun k hk => .inl (h.out m hm k (hG k hk)).1)⟩
  · by_cases hjm : j = m
    · subst hjm
      simp only [oupd, if_true]
      refine ⟨d, r, A', B', hh, hu, x.duo, fun k hk => ?_, fun k hk => ?_⟩
      · have h3 := x.duo.la k hk
        rcases x.fa k hk with h2 | h2
        · exact .inl (hA k h2)
        · exact .inr ⟨h2, h3⟩
      · have h3 := x.duo.lb k hk
        rcases x.fb k hk with h2 | h2
        · exact .inl (hB' k h2)
        · exact .inr ⟨h2, h3⟩
    · simp only [oupd, if_neg hjm]
      exact (h.pv j hj).chg x.chg (fun k hk hg => h.sep j m hj hm hjm k hk (hG k hg))
  · by_cases hjm : j = m
    · simp only [if_pos hjm] at hk
      rcases hk with hk | hk
      · exact h.out m hm k hk
      · exact ⟨by omega, by omega, by omega⟩
    · simp only [if_neg hjm] at hk
      exact h.out j hj k hk
  · by_cases him : i = m
    · have hjm : ¬ j = m := fun e => hij (him.trans e.symm)
      simp only [if_pos him] at hk
      simp only [if_neg hjm] at hk2
      rcases hk with hk | hk
      · exact h.sep m j hm hj (fun e => hjm e.symm) k hk hk2
      · have := h.lb j hj k hk2; omega
    · simp only [if_neg him] at hk
      by_cases hjm : j = m
      · simp only [if_pos hjm] at hk2
        rcases hk2 with hk2 | hk2
        · exact h.sep i m hi hm him k hk hk2
        · have := h.lb i hi k hk; omega
      · simp only [if_neg hjm] at hk2
        exact h.sep i j hi hj hij k hk hk2
  · by_cases hjm : j = m
    · simp only [if_pos hjm] at hk
      rcases hk with hk | hk
      · have := h.lb m hm k hk; omega
      · omega
    · simp only [if_neg hjm] at hk
      have := h.lb j hj k hk; omega
/-- pair m becomes something new: what is new lies behind what was -/
theorem Tri.put {w w' : World} {B0 hb wb : Nat} {hv uv : Nat → Value} {o : Nat → Option Dsk} {F : Nat → Nat → Prop} (h : Tri w B0 hb wb hv uv o F) (hB : B0 ≤ w.heap.size) {m : Nat} (hm : m < 3) (hx ux : Value) (E : Option Dsk)
    (c : Chg (fun k => k = hb ∨ k = wb) w w') (h1 : Arr w' hb 49 (vupd hv m hx)) (h2 : Arr w' wb 52 (vupd uv m ux)) (h3 : PV w' hx ux (fun k => w.heap.size ≤ k ∧ k < w'.heap.size) E) :
    ∃ F', Tri w' B0 hb wb (vupd hv m hx) (vupd uv m ux) (oupd o m E) F' ∧ From B0 w w' := by
  have z := c.size
  have zh := h.have_.lt
  have zw := h.want.lt
  have hhb := h.ghb
  have hwb := h.gwb
  refine ⟨fun j k => if j = m then w.heap.size ≤ k ∧ k < w'.heap.size else F j k, ⟨h1, h2, fun j hj => ?_, fun j hj k hk => ?_, fun i j hi hj hij k hk hk2 => ?_, fun j hj k hk => ?_, h.ghb, h.gwb, h.ne⟩, c.mono (fun k hk => .inl (by omega))⟩
  · by_cases hjm : j = m
    · subst hjm
      simp only [oupd, vupd, if_true]
      exact h3
    · simp only [oupd, vupd, if_neg hjm]
      refine (h.pv j hj).chg c (fun k hk hg => ?_)
      have := h.out j hj k hk
      omega
  · by_cases hjm : j = m
    · simp only [if_pos hjm] at hk
      exact ⟨by omega, by omega, by omega⟩
    · simp only [if_neg hjm] at hk
      exact h.out j hj k hk
  · by_cases him : i = m
    · have hjm : ¬ j = m := fun e => hij (him.trans e.symm)
      simp only [if_pos him] at hk
      simp only [if_neg hjm] at hk2
      have := h.lb j hj k hk2; omega
    · simp only [if_neg him] at hk
      by_cases hjm : j = m
      · simp only [if_pos hjm] at hk2
        have := h.lb i hi k hk; omega
      · simp only [if_neg hjm] at hk2
        exact h.sep i j hi hj hij k hk hk2
  · by_cases hjm : j = m
    · simp only [if_pos hjm] at hk; omega
    · simp only [if_neg hjm] at hk
      have := h.lb j hj k hk; omega
/-- how many writes wait at most -/
def Few (o : Nat → Option Dsk) (n : Nat) : Prop := ∀ j, j < 3 → ∀ D, o j = some D → D.wait.length ≤ n
theorem stepD_wait (K N S : Int) (ks : List Bool) (D : Dsk) : (stepD K N S ks D).wait.length ≤ D.wait.length + 1 := by
  unfold stepD
  have hw : ∀ s, (D.writeR N s).wait.length ≤ D.wait.length + 1 := by
    intro s
    unfold Dsk.writeR
    split
    · unfold Dsk.write Dsk.change Dsk.put
      split <;> simp
    · omega
  have hy : D.sync.wait.length ≤ D.wait.length + 1 := by
    unfold Dsk.sync Dsk.change
    split <;> simp
  have ha : (D.arm N).wait.length ≤ D.wait.length + 1 := by
    unfold Dsk.arm
    split <;> simp
  have hr : (D.restart ks).wait.length ≤ D.wait.length + 1 := by simp [Dsk.restart]
  split
  · exact hw _
  · split
    · split
      · omega
      · exact hy
    · split
      · exact ha
      · split
        · exact hr
        · omega
theorem Few.put {o : Nat → Option Dsk} {n : Nat} (h : Few o n) (m : Nat) (E : Dsk) (hE : E.wait.length ≤ n + 1) : Few (oupd o m (some E)) (n + 1) := by
  intro j hj D hD
  unfold oupd at hD
  split at hD
  · obtain rfl := Option.some.inj hD; exact hE
  · have := h j hj D hD; omega
theorem Few.none {o : Nat → Option Dsk} {n : Nat} (h : Few o n) (m : Nat) : Few (oupd o m none) (n + 1) := by
  intro j hj D hD
  unfold oupd at hD
  split at hD
  · cases hD
  · have := h j hj D hD; omega
theorem Few.succ {o : Nat → Option Dsk} {n : Nat} (h : Few o n) : Few o (n + 1) := fun j hj D hD => Nat.le_succ_of_le (h j hj D hD)
/-- pair m becomes a clone of a pair that stands -/
theorem tri_clone {w w2 w3 : World} {B0 hb wb : Nat} {hv uv : Nat → Value} {o : Nat → Option Dsk} {F : Nat → Nat → Prop} (h : Tri w B0 hb wb hv uv o F) (hB : B0 ≤ w.heap.size) {m : Nat} (hm : m < 3) (d r : Nat) (D : Dsk)
    (h2 : DiskAt w2 d (Ext (fun _ => False) w w2) D) (x2 : Chg (fun _ => False) w w2) (h3 : RefAt w3 r (Ext (fun _ => False) (w2.setCell ⟨hb, m, none⟩ (.pointer (some ⟨d, 0, none⟩))) w3) D) (x3 : Chg (fun _ => False) (w2.setCell ⟨hb, m, none⟩ (.pointer (some ⟨d, 0, none⟩))) w3) :
    ∃ F', Tri (w3.setCell ⟨wb, m, none⟩ (.pointer (some ⟨r, 0, none⟩))) B0 hb wb (vupd hv m (.pointer (some ⟨d, 0, none⟩))) (vupd uv m (.pointer (some ⟨r, 0, none⟩))) (oupd o m (some D)) F' ∧ From B0 w (w3.setCell ⟨wb, m, none⟩ (.pointer (some ⟨r, 0, none⟩))) := by
  have zh := h.have_.lt
  have zw := h.want.lt
  have hne := h.ne
  have z2 := x2.size
  have z3 := x3.size
  have e2 : (w2.setCell ⟨hb, m, none⟩ (.pointer (some ⟨d, 0, none⟩))).heap.size = w2.heap.size := by simp
  have e3 : (w3.setCell ⟨wb, m, none⟩ (.pointer (some ⟨r, 0, none⟩))).heap.size = w3.heap.size := by simp
  have y2 : Chg (fun k => k = hb) w2 (w2.setCell ⟨hb, m, none⟩ (.pointer (some ⟨d, 0, none⟩))) := (Chg.refl (fun k => k = hb) w2).setCell (p := ⟨hb, m, none⟩) (.inl rfl) _
  have y3 : Chg (fun k => k = wb) w3 (w3.setCell ⟨wb, m, none⟩ (.pointer (some ⟨r, 0, none⟩))) := (Chg.refl (fun k => k = wb) w3).setCell (p := ⟨wb, m, none⟩) (.inl rfl) _
  refine h.put hB hm _ _ (some D) ?_ ?_ ?_ ⟨d, r, Ext (fun _ => False) w w2, Ext (fun _ => False) (w2.setCell ⟨hb, m, none⟩ (.pointer (some ⟨d, 0, none⟩))) w3, rfl, rfl, ⟨?_, ?_, ?_, ?_, ?_⟩, ?_, ?_⟩
  · exact (((x2.mono (fun _ h => h.elim)).trans y2 (fun k hk => .inl (.inl hk))).trans x3 (fun _ h => h.elim)).trans y3 (fun k hk => .inl (.inr hk))
  · exact (((h.have_.chg x2 (fun h => h)).set m _).chg x3 (fun h => h)).chg y3 hne
  · exact (((h.want.chg x2 (fun h => h)).chg y2 (fun e => hne e.symm)).chg x3 (fun h => h)).set m _
  · refine ((h2.chg y2 (fun k hk e => ?_)).chg x3 (fun _ _ h => h)).chg y3 (fun k hk e => ?_)
    · rcases hk with hk | hk
      · exact hk
      · omega
    · rcases hk with hk | hk
      · exact hk
      · omega
  · refine h3.chg y3 (fun k hk e => ?_)
    rcases hk with hk | hk
    · exact hk
    · omega
  · intro k hk hk2
    rcases hk with hk | hk
    · exact hk
    · rcases hk2 with hk2 | hk2
      · exact hk2
      · omega
  · intro k hk
    rcases hk with hk | hk
    · exact hk.elim
    · omega
  · intro k hk
    rcases hk with hk | hk
    · exact hk.elim
    · omega
  · intro k hk
    rcases hk with hk | hk
    · exact hk.elim
    · omega
  · intro k hk
    rcases hk with hk | hk
    · exact hk.elim
    · omega
theorem tri_none {w : World} {B0 hb wb : Nat} {hv uv : Nat → Value} {o : Nat → Option Dsk} {F : Nat → Nat → Prop} (h : Tri w B0 hb wb hv uv o F) (hB : B0 ≤ w.heap.size) {m : Nat} (hm : m < 3) :
    ∃ F', Tri ((w.setCell ⟨hb, m, none⟩ (.pointer none)).setCell ⟨wb, m, none⟩ (.pointer none)) B0 hb wb (vupd hv m (.pointer none)) (vupd uv m (.pointer none)) (oupd o m none) F' ∧ From B0 w ((w.setCell ⟨hb, m, none⟩ (.pointer none)).setCell ⟨wb, m, none⟩ (.pointer none)) := by
  have hne := h.ne
  have y2 : Chg (fun k => k = hb) w (w.setCell ⟨hb, m, none⟩ (.pointer none)) := (Chg.refl (fun k => k = hb) w).setCell (p := ⟨hb, m, none⟩) (.inl rfl) _
  have y3 : Chg (fun k => k = wb) (w.setCell ⟨hb, m, none⟩ (.pointer none)) ((w.setCell ⟨hb, m, none⟩ (.pointer none)).setCell ⟨wb, m, none⟩ (.pointer none)) := (Chg.refl (fun k => k = wb) _).setCell (p := ⟨wb, m, none⟩) (.inl rfl) _
  exact h.put hB hm _ _ none ((y2.mono (fun k hk => .inl (.inl hk))).trans y3 (fun k hk => .inl (.inr hk))) ((h.have_.set m _).chg y3 hne) ((h.want.chg y2 (fun e => hne e.symm)).set m _) ⟨rfl, rfl⟩
def three {α : Type} (a b c : α) (j : Nat) : α := if j = 0 then a else if j = 1 then b else c
theorem three_arr {w : World} {g : Nat} {t : TypeId} {a b c : Value} (h : w.heap[g]? = some (.cells #[a, b, c] t (0, 0))) : Arr w g t (three a b c) :=
  ⟨_, h, rfl, fun j hj => by
    match j, hj with
    | 0, _ => rfl
    | 1, _ => rfl
    | 2, _ => rfl⟩
theorem tri_start {w1 wA wB : World} {hb wb d0 d1 r0 r1 B0 : Nat} {s0 s1 : Int} {F0 F1 G0 G1 : Nat → Prop} (z1 : B0 ≤ w1.heap.size) (hh : wA.heap[hb]? = some (.cells #[.pointer (some ⟨d0, 0, none⟩), .pointer (some ⟨d1, 0, none⟩), .pointer none] 49 (0, 0))) (D0 : DiskAt wA d0 F0 (Dsk.new s0)) (D1 : DiskAt wA d1 F1 (Dsk.new s1))
    (hd : ∀ k, F0 k → ¬ F1 k) (hF : ∀ k, F0 k ∨ F1 k → w1.heap.size ≤ k ∧ k < wA.heap.size ∧ k ≠ hb) (hb1 : w1.heap.size ≤ hb)
    (hw : wB.heap[wb]? = some (.cells #[.pointer (some ⟨r0, 0, none⟩), .pointer (some ⟨r1, 0, none⟩), .pointer none] 52 (0, 0))) (R0 : RefAt wB r0 G0 (Dsk.new s0)) (R1 : RefAt wB r1 G1 (Dsk.new s1))
    (hd2 : ∀ k, G0 k → ¬ G1 k) (hG : ∀ k, G0 k ∨ G1 k → wA.heap.size ≤ k ∧ k < wB.heap.size ∧ k ≠ wb) (wb1 : wA.heap.size ≤ wb) (x : Chg (fun _ => False) wA wB) (z2 : w1.heap.size ≤ wA.heap.size) :
    Tri wB B0 hb wb (three (.pointer (some ⟨d0, 0, none⟩)) (.pointer (some ⟨d1, 0, none⟩)) (.pointer none)) (three (.pointer (some ⟨r0, 0, none⟩)) (.pointer (some ⟨r1, 0, none⟩)) (.pointer none))
      (three (some (Dsk.new s0)) (some (Dsk.new s1)) none) (three (fun k => F0 k ∨ G0 k) (fun k => F1 k ∨ G1 k) (fun _ => False)) := by
  have lh := lt_of_heap hh
  have z := x.size
  refine ⟨three_arr (x.heap hh (fun h => h)), three_arr hw, fun j hj => ?_, fun j hj k hk => ?_, fun i j hi hj hij k hk hk2 => ?_, fun j hj k hk => ?_, by omega, by omega, by omega⟩
  · match j, hj with
    | 0, _ =>
      exact ⟨d0, r0, F0, G0, rfl, rfl, ⟨D0.chg x (fun _ _ h => h), R0, fun k h1 h2 => by have := hF k (.inl h1); have := hG k (.inl h2); omega, fun k h1 => by have := hF k (.inl h1); omega, fun k h1 => (hG k (.inl h1)).2.1⟩, fun k h => .inl h, fun k h => .inr h⟩
    | 1, _ =>
      exact ⟨d1, r1, F1, G1, rfl, rfl, ⟨D1.chg x (fun _ _ h => h), R1, fun k h1 h2 => by have := hF k (.inr h1); have := hG k (.inr h2); omega, fun k h1 => by have := hF k (.inr h1); omega, fun k h1 => (hG k (.inr h1)).2.1⟩, fun k h => .inl h, fun k h => .inr h⟩
    | 2, _ => exact ⟨rfl, rfl⟩
  · match j, hj with
    | 0, _ =>
      rcases hk with hk | hk
      · have := hF k (.inl hk); omega
      · have := hG k (.inl hk); omega
    | 1, _ =>
      rcases hk with hk | hk
      · have := hF k (.inr hk); omega
      · have := hG k (.inr hk); omega
    | 2, _ => exact hk.elim
  · match i, hi, j, hj with
    | 0, _, 0, _ => exact hij rfl
    | 0, _, 1, _ =>
      rcases hk with hk | hk <;> rcases hk2 with hk2 | hk2
      · exact hd k hk hk2
      · have := hF k (.inl hk); have := hG k (.inr hk2); omega
      · have := hG k (.inl hk); have := hF k (.inr hk2); omega
      · exact hd2 k hk hk2
    | 1, _, 0, _ =>
      rcases hk with hk | hk <;> rcases hk2 with hk2 | hk2
      · exact hd k hk2 hk
      · have := hF k (.inr hk); have := hG k (.inl hk2); omega
      · have := hG k (.inr hk); have := hF k (.inl hk2); omega
      · exact hd2 k hk2 hk
    | 1, _, 1, _ => exact hij rfl
    | 2, _, _, _ => exact hk.elim
    | 0, _, 2, _ => exact hk2.elim
    | 1, _, 2, _ => exact hk2.elim
  · match j, hj with
    | 0, _ =>
      rcases hk with hk | hk
      · have := hF k (.inl hk); omega
      · exact (hG k (.inl hk)).2.1
    | 1, _ =>
      rcases hk with hk | hk
      · have := hF k (.inr hk); omega
      · exact (hG k (.inr hk)).2.1
    | 2, _ => exact hk.elim
theorem few_start (s0 s1 : Int) : Few (three (some (Dsk.new s0)) (some (Dsk.new s1)) none) 0 := by
  intro j hj D hD
  match j, hj with
  | 0, _ => obtain rfl := Option.some.inj hD; exact Nat.le_refl 0
  | 1, _ => obtain rfl := Option.some.inj hD; exact Nat.le_refl 0
  | 2, _ => cases hD
end Go.Proofs.Ytihpobpkhhkejaa
