/-
  A list of tables in memory. No condition beyond each lemma's own.
-/
import Derived.Test.YtpiijcjbphpffaaCCat
set_option autoImplicit false
namespace Go.Proofs.Ytpiijcjbphpffaa
open Go Go.RowKit

theorem field_tab0 (a : ByteArray) (ao : Option Addr) (l c : Nat) (w : World) : (Instr.field 27 (.agg #[.string a, .slice ao l c]) 0).run Try.prog w = .ok (.string a) w := by kernel_rfl
theorem field_tab1 (a : ByteArray) (ao : Option Addr) (l c : Nat) (w : World) : (Instr.field 27 (.agg #[.string a, .slice ao l c]) 1).run Try.prog w = .ok (.slice ao l c) w := by kernel_rfl
def tabCells (ts : List Tab) (us : List Value) : List Value := (ts.zip us).flatMap fun p => [.string p.1.name, p.2]
def ColsEach (w : World) (F : Nat → Prop) (ts : List Tab) (us : List Value) : Prop := us.length = ts.length ∧ ∀ (i : Nat) (t : Tab) (u : Value), ts[i]? = some t → us[i]? = some u → ColsAt w F u t.cols
def TabsAt (w : World) (F : Nat → Prop) (v : Value) (ts : List Tab) : Prop := ∃ us, ColsEach w F ts us ∧ RowAt w F v ts.length (tabCells ts us)
theorem ColsEach.chg {w w' : World} {F G : Nat → Prop} {ts : List Tab} {us : List Value} (h : ColsEach w F ts us) (c : Chg G w w') (hd : ∀ k, F k → ¬ G k) : ColsEach w' F ts us := ⟨h.1, fun i t u ht hu => RowAt.chg (h.2 i t u ht hu) c hd⟩
theorem ColsEach.mono {w : World} {F G : Nat → Prop} {ts : List Tab} {us : List Value} (h : ColsEach w F ts us) (hG : ∀ k, F k → k < w.heap.size → G k) : ColsEach w G ts us := ⟨h.1, fun i t u ht hu => RowAt.mono (h.2 i t u ht hu) hG⟩
theorem TabsAt.chg {w w' : World} {F G : Nat → Prop} {v : Value} {ts : List Tab} (h : TabsAt w F v ts) (c : Chg G w w') (hd : ∀ k, F k → ¬ G k) : TabsAt w' F v ts := by
  obtain ⟨us, h1, h2⟩ := h
  exact ⟨us, h1.chg c hd, h2.chg c hd⟩
theorem TabsAt.quiet {w w' : World} {F : Nat → Prop} {v : Value} {ts : List Tab} (h : TabsAt w F v ts) (c : Chg (fun _ => False) w w') : TabsAt w' F v ts := h.chg c (fun _ _ h => h)
theorem TabsAt.mono {w : World} {F G : Nat → Prop} {v : Value} {ts : List Tab} (h : TabsAt w F v ts) (hG : ∀ k, F k → k < w.heap.size → G k) : TabsAt w G v ts := by
  obtain ⟨us, h1, h2⟩ := h
  exact ⟨us, h1.mono hG, h2.mono hG⟩
theorem tabCells_len {ts : List Tab} {us : List Value} (h : us.length = ts.length) : (tabCells ts us).length = ts.length * 2 := by
  unfold tabCells
  rw [flatMap_len (fun p : Tab × Value => [Value.string p.1.name, p.2]) 2 _ (fun _ _ => rfl), List.length_zip, h]
  simp
theorem tabCells_app {ts : List Tab} {us : List Value} (h : us.length = ts.length) (t : Tab) (u : Value) : tabCells (ts ++ [t]) (us ++ [u]) = tabCells ts us ++ [.string t.name, u] := by
  unfold tabCells
  rw [List.zip_append h.symm, List.flatMap_append]
  simp
theorem ColsEach.app {w : World} {F : Nat → Prop} {ts : List Tab} {us : List Value} (h : ColsEach w F ts us) {t : Tab} {u : Value} (hu : ColsAt w F u t.cols) : ColsEach w F (ts ++ [t]) (us ++ [u]) := by
  refine ⟨by simp [h.1], fun i s v hs hv => ?_⟩
  by_cases hi : i < ts.length
  · rw [List.getElem?_append_left hi] at hs
    rw [List.getElem?_append_left (by rw [h.1]; exact hi)] at hv
    exact h.2 i s v hs hv
  · have hi2 : i = ts.length := by
      have := (List.getElem?_eq_some_iff.1 hs).1
      simp at this; omega
    subst hi2
    rw [List.getElem?_append_right (Nat.le_refl _)] at hs
    rw [List.getElem?_append_right (by rw [h.1]; exact Nat.le_refl _)] at hv
    rw [h.1] at hv
    simp at hs hv
    subst hs; subst hv
    exact hu
/-- a table's two cells, and its columns -/
theorem TabsAt.tab {w : World} {F : Nat → Prop} {ts : List Tab} {ao : Option Addr} {cap : Nat} (h : TabsAt w F (.slice ao ts.length cap) ts) {i : Nat} {t : Tab} (hi : ts[i]? = some t) :
    ∃ b o a1 k1, ao = some ⟨b, o, none⟩ ∧ b < w.heap.size ∧ F b ∧ w.cell? ⟨b, o + i * 2, none⟩ = some (.string t.name) ∧ w.cell? ⟨b, o + i * 2 + 1, none⟩ = some (.slice a1 t.cols.length k1) ∧ ColsAt w F (.slice a1 t.cols.length k1) t.cols := by
  obtain ⟨us, ⟨h1, h2⟩, ao', cap', hv', hp⟩ := h
  simp only [Value.slice.injEq] at hv'
  obtain ⟨rfl, _, rfl⟩ := hv'
  have hlt := (List.getElem?_eq_some_iff.1 hi).1
  obtain ⟨b, o, rfl, hb, hf, hr⟩ := hp (by omega)
  obtain ⟨u, hu⟩ : ∃ u, us[i]? = some u := ⟨_, List.getElem?_eq_getElem (by omega)⟩
  obtain ⟨a1, k1, rfl, hq⟩ := h2 i t u hi hu
  have hz : (ts.zip us)[i]? = some (t, .slice a1 t.cols.length k1) := by
    rw [List.getElem?_zip_eq_some]
    exact ⟨hi, hu⟩
  have he := range_elem (f := fun p : Tab × Value => [Value.string p.1.name, p.2]) (s := 2) hr (fun _ => rfl) hz
  exact ⟨b, o, a1, k1, rfl, hb, hf, he 0 _ rfl, he 1 _ rfl, a1, k1, rfl, hq⟩
theorem tfind_of_mem {T : List Tab} (hn : (T.map (·.name)).Nodup) {t : Tab} (ht : t ∈ T) : tfind T t.name = some t := by
  induction T with
  | nil => simp at ht
  | cons a l ih =>
    rw [List.map_cons, List.nodup_cons] at hn
    unfold tfind
    rw [List.find?_cons]
    rcases List.mem_cons.1 ht with rfl | ht
    · rw [beq_self]
    · have : a.name ≠ t.name := fun e => hn.1 (e ▸ List.mem_map.2 ⟨t, ht, rfl⟩)
      rw [beq_ne this]
      exact ih hn.2 ht
end Go.Proofs.Ytpiijcjbphpffaa
