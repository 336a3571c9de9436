/-
  How rows of values that came in read. No condition beyond each lemma's own.
-/
import Derived.Test.YtpiijcjbphpffaaCIn
set_option autoImplicit false
namespace Go.Proofs.Ytpiijcjbphpffaa
open Go Go.RowKit Go.ChangeShapes Go.WideShapes Go.ChangeAt Go.Deep

theorem valFields : ∃ fs : Array Field, Try.prog.underlying 62 = some (.struct fs) ∧ oneCellFields Try.prog fs = true ∧ Try.prog.cellsOf 62 = fs.size ∧ fs.size = 3 ∧ (∃ f, fs[0]? = some f ∧ f.type = 3) ∧ (∃ f, fs[1]? = some f ∧ f.type = 2) ∧ (∃ f, fs[2]? = some f ∧ f.type = 9) :=
  ⟨_, Try.underlying62, by kernel_rfl, by kernel_rfl, rfl, ⟨_, rfl, rfl⟩, ⟨_, rfl, rfl⟩, ⟨_, rfl, rfl⟩⟩
section
variable {H : Type} {enc : TypeId × Value → H} {w : World} {base : Nat} {held : Bool}
theorem vals_rd {fuel : Nat} {v : Value} {x : DataW H × List MemPlace} (h : DataW.trod enc Try.prog w base (fun _ => true) held fuel 53 [v] = some x) :
    ∃ l, ValsAt w (fun b => b < w.heap.size) v l ∧ CapOk v ∧ (l.length = 0 ∨ ∃ el sp, x.1 = .slice el sp ∧ el.length = l.length) ∧ ∀ c ∈ l, big c.str := by
  have hcap : CapOk v := by
    rcases open_slice Try.underlying53 h with ⟨hcs, _⟩ | ⟨a, len, cap, m, n, D, Pl, hcs, _, hl, _⟩
    · simp at hcs
      subst hcs
      exact capOk_lit _ _ _ (Nat.le_refl _)
    · simp at hcs
      subst hcs
      exact capOk_lit _ _ _ hl
  obtain ⟨ao, len, cap, rfl⟩ := slice_form Try.underlying53 h
  obtain ⟨fs, hu, hone, hC, h4, ⟨f0, e0, t0⟩, ⟨f1, e1, t1⟩, ⟨f2, e2, t2⟩⟩ := valFields
  obtain ⟨V, hm, hrd, hel, hf⟩ := fields_rd (ao := ao) (len := len) (cap := cap) Try.underlying53 hu hone hC (by omega) (by simpa [Value.cells] using h)
  have g0 : ∀ i, i < len → V i 0 = .int .i64 (intOf (V i 0)) := fun i hi => by
    obtain ⟨n, y, h0⟩ := hf i hi 0 f0 e0
    rw [t0] at h0
    exact (i64_of Try.underlying3 h0).1
  have g1 : ∀ i, i < len → V i 1 = .int .i64 (intOf (V i 1)) := fun i hi => by
    obtain ⟨n, y, h0⟩ := hf i hi 1 f1 e1
    rw [t1] at h0
    exact (i64_of Try.underlying2 h0).1
  have g2 : ∀ i, i < len → V i 2 = .string (strOf (V i 2)) ∧ big (strOf (V i 2)) := fun i hi => by
    obtain ⟨n, y, h0⟩ := hf i hi 2 f2 e2
    rw [t2] at h0
    exact str1 Try.underlying9 h0
  rw [h4] at hrd
  have hr := slRd_row (cap := cap) Val.cells (fun x => x.len) (by omega) (fun i => (⟨intOf (V i 0), intOf (V i 1), strOf (V i 2)⟩ : Val)) hrd (fun i j hi hj => by
    match j, hj with
    | 0, _ => exact congrArg some (g0 i hi).symm
    | 1, _ => exact congrArg some (g1 i hi).symm
    | 2, _ => exact congrArg some (g2 i hi).1.symm)
  refine ⟨(List.range len).map fun i => (⟨intOf (V i 0), intOf (V i 1), strOf (V i 2)⟩ : Val), ?_, hcap, ?_, fun c hc => ?_⟩
  · unfold ValsAt valCells
    rw [List.length_map, List.length_range]
    exact hr
  · rw [List.length_map, List.length_range]; exact hel
  · obtain ⟨i, hi, rfl⟩ := List.mem_map.1 hc
    exact (g2 i (List.mem_range.1 hi)).2
theorem weights_vals {d : DataW H} {el sp : List (DataW H)} (hd : d = .slice el sp) (h : ∀ n ∈ d.weights Try.prog 53, n ≤ reachBytes) : el.length * 32 ≤ reachBytes := by
  subst hd
  have hu := Try.underlying53
  have h1 : Try.prog.bytesOf 62 = 32 := by kernel_rfl
  have := h ((el.length + sp.length) * Try.prog.bytesOf 62) (by simp [DataW.weights, hu])
  rw [h1] at this
  omega
theorem weights_in {e : TypeId} : ∀ (l : List (DataW H)) (d : DataW H), d ∈ l → ∀ n ∈ d.weights Try.prog e, n ∈ DataW.weightsAll Try.prog e l
  | [], _, h, _, _ => by cases h
  | y :: l, d, h, n, hn => by
    simp only [DataW.weightsAll, List.mem_append]
    rcases List.mem_cons.1 h with rfl | h
    · exact .inl hn
    · exact .inr (weights_in l d h n hn)
/-- a list of rows of values that came in -/
theorem rows_rd {fuel : Nat} {v : Value} {x : DataW H × List MemPlace} (h : DataW.trod enc Try.prog w base (fun _ => true) held fuel 40 [v] = some x) (hw : ∀ n ∈ x.1.weights Try.prog 40, n ≤ reachBytes) :
    ∃ rows, RowsAt w (fun b => b < w.heap.size) v rows ∧ RowsOk rows := by
  have hu := Try.underlying40
  have h24 : Try.prog.bytesOf 53 = 24 := by kernel_rfl
  rcases open_slice Try.underlying40 h with ⟨hcs, _⟩ | ⟨a, len, cap, m, n, D, Pl, hcs, _, hl, hm, hmm, rfl, hc⟩
  · simp at hcs
    subst hcs
    exact ⟨[], ⟨[], ⟨rfl, fun i r u hr _ => by simp at hr⟩, RowAt.nil _ _ _ _⟩, ⟨by simp, fun row hr => by simp at hr⟩⟩
  · simp at hcs
    subst hcs
    simp only [if_true] at hmm
    have hlw : len * 24 ≤ reachBytes := by
      have := hw ((((List.range len).map D).length + ((List.range (m - len)).map fun j => D (len + j)).length) * Try.prog.bytesOf 53) (by simp [DataW.weights, hu])
      rw [h24] at this
      simp only [List.length_map, List.length_range] at this
      omega
    have each : ∀ i, i < len → ∃ q : Value × List Val, w.cell? (a.add i) = some q.1 ∧ ValsAt w (fun b => b < w.heap.size) q.1 q.2 ∧ CapOk q.1 ∧ q.2.length ≤ 4400000000000 ∧ ∀ c ∈ q.2, big c.str := by
      intro i hi
      obtain ⟨cs', h1, h2⟩ := hc i (by omega)
      have ce : Try.prog.cellsOf 53 = 1 := by kernel_rfl
      rw [ce, Nat.mul_one] at h1
      obtain ⟨_, hlen, hcell⟩ := World.cells?_some h1
      match cs', hlen with
      | [u], _ =>
        have hv := hcell 0 (by omega)
        simp only [Addr.add_zero', List.getElem?_cons_zero] at hv
        obtain ⟨l, hla, hcp, hz, hb⟩ := vals_rd h2
        refine ⟨(u, l), hv, hla, hcp, ?_, hb⟩
        rcases hz with h0 | ⟨el, sp, hd, hel⟩
        · show l.length ≤ _; omega
        · have := weights_vals hd (fun n hn => hw n (by
            simp only [DataW.weights, hu, List.mem_cons, List.mem_append]
            exact .inr (.inl (weights_in _ (D i) (List.mem_map.2 ⟨i, List.mem_range.2 hi, rfl⟩) n hn))))
          unfold reachBytes at this
          show l.length ≤ _; omega
    obtain ⟨q, hq⟩ := choose_lt each
    refine ⟨(List.range len).map (fun i => (q i).2), ⟨(List.range len).map (fun i => (q i).1), ⟨by simp, fun i r u hi hu => ?_⟩, ?_⟩, ⟨?_, fun row hr => ?_⟩⟩
    · simp only [List.getElem?_map, Option.map_eq_some_iff] at hi hu
      obtain ⟨i1, hi1, rfl⟩ := hi
      obtain ⟨i2, hi2, rfl⟩ := hu
      have hlt := (List.getElem?_eq_some_iff.1 hi1).1
      simp at hlt
      rw [List.getElem?_range hlt] at hi1 hi2
      obtain rfl := Option.some.inj hi1
      obtain rfl := Option.some.inj hi2
      exact ⟨(hq i hlt).2.1, (hq i hlt).2.2.1⟩
    · rw [List.length_map, List.length_range]
      refine ⟨some a, cap, rfl, fun hpos => ?_⟩
      have hz := (hq 0 hpos).1
      have ha := addr_plain hz rfl
      have hbl : a.block < w.heap.size := by have := World.block_lt_of_cell? w _ hz; rw [ha] at this; simpa [Addr.add] using this
      refine ⟨a.block, a.off, by rw [← ha], hbl, hbl, fun j u hj => ?_⟩
      have hj2 : j < len := by have := (List.getElem?_eq_some_iff.1 hj).1; simpa using this
      rw [List.getElem?_map, List.getElem?_range hj2] at hj
      obtain rfl := Option.some.inj hj
      have h1 := (hq j hj2).1
      rw [ha, Addr.add_mid] at h1
      exact h1
    · rw [List.length_map, List.length_range]; unfold reachBytes at hlw; omega
    · obtain ⟨i, hi, rfl⟩ := List.mem_map.1 hr
      exact ⟨(hq i (List.mem_range.1 hi)).2.2.2.1, (hq i (List.mem_range.1 hi)).2.2.2.2⟩
end
end Go.Proofs.Ytpiijcjbphpffaa
