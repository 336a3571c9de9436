/-
  How rows of bytes that came in are told to the walks of the log's laws. No condition.
-/
import Derived.Test.YtihpobpkhhkejaaRowS
import Derived.Test.YtihpobpkhhkejaaWSame
set_option autoImplicit false
namespace Go.Proofs.Ytihpobpkhhkejaa
open Go.ChangeShapes Go.WideShapes Go.ChangeAt Go.RowKit Go.Deep

section
variable {H : Type} {enc : TypeId × Value → H} {w : World} {base : Nat} {held : Bool}
theorem bytR_of {fuel : Nat} {ao : Option Addr} {len cap : Nat} {x : DataW H × List MemPlace} (h : DataW.trod enc Try.prog w base (fun _ => true) held fuel 22 (Value.slice ao len cap).cells.toList = some x) :
    ∃ xs, BytR w (fun k => w.heap.size ≤ k) (.slice ao len cap) xs ∧ xs.length = len ∧ (len = 0 ∨ ∃ el sp, x.1 = .slice el sp ∧ el.length = len) := by
  obtain ⟨V, hm, hrd, hV⟩ := slice1_rd Try.underlying22 (by kernel_rfl) (p := fun V => V = .int .u8 (intOf V) ∧ 0 ≤ intOf V ∧ intOf V ≤ 255) (fun V n y h => u8_of Try.underlying5 h) h
  refine ⟨(List.range len).map (fun i => intOf (V i)), ⟨fun b hb => ?_, by simpa using hm, ao, cap, by simp, fun hp => ?_⟩, by simp, ?_⟩
  · obtain ⟨i, hi, rfl⟩ := List.mem_map.1 hb
    exact (hV i (List.mem_range.1 hi)).2
  · obtain ⟨b, o, rfl, hb, hc⟩ := hrd (by simpa using hp)
    refine ⟨b, o, rfl, ⟨hb, by omega⟩, fun j hj => ?_⟩
    have hj2 : j < len := by simpa using hj
    have h1 := hc j 0 hj2 (by omega)
    simp only [Nat.mul_one, Nat.add_zero] at h1
    rw [h1, (hV j hj2).1]
    simp [intOf]
  · rcases open_slice Try.underlying22 h with ⟨hcs, _⟩ | ⟨a, l, c, m, n, D, Pl, hcs, _, hl, hm2, hmm, rfl, hc⟩
    · simp [Value.cells] at hcs
      exact .inl hcs.2.1
    · simp [Value.cells] at hcs
      obtain ⟨rfl, rfl, rfl⟩ := hcs
      exact .inr ⟨_, _, rfl, by simp⟩
theorem weights_u8s {d : DataW H} {el sp : List (DataW H)} (hd : d = .slice el sp) (h : ∀ n ∈ d.weights Try.prog 22, n ≤ reachBytes) : el.length ≤ reachBytes := by
  subst hd
  have hu := Try.underlying22
  have h1 : Try.prog.bytesOf 5 = 1 := by kernel_rfl
  have := h ((el.length + sp.length) * Try.prog.bytesOf 5) (by simp [DataW.weights, hu])
  rw [h1] at this
  omega
theorem weights_all {e : TypeId} : ∀ (l : List (DataW H)) (d : DataW H), d ∈ l → ∀ n ∈ d.weights Try.prog e, n ∈ DataW.weightsAll Try.prog e l
  | [], _, h, _, _ => by cases h
  | y :: l, d, h, n, hn => by
    simp only [DataW.weightsAll, List.mem_append]
    rcases List.mem_cons.1 h with rfl | h
    · exact .inl hn
    · exact .inr (weights_all l d h n hn)
/-- a list of rows of bytes that came in -/
theorem recsR_of {fuel : Nat} {ao : Option Addr} {len cap : Nat} {x : DataW H × List MemPlace} (h : DataW.trod enc Try.prog w base (fun _ => true) held fuel 65 (Value.slice ao len cap).cells.toList = some x) (hw : ∀ n ∈ x.1.weights Try.prog 65, n ≤ reachBytes) :
    ∃ rs, RecsR w (fun k => w.heap.size ≤ k) (.slice ao len cap) rs ∧ rs.length = len ∧ (∀ r ∈ rs, r.length ≤ reachBytes) ∧ len * 24 ≤ reachBytes := by
  have hu := Try.underlying65
  have h24 : Try.prog.bytesOf 22 = 24 := by kernel_rfl
  rcases open_slice Try.underlying65 h with ⟨hcs, _⟩ | ⟨a, l, c, m, n, D, Pl, hcs, _, hl, hm2, hmm, rfl, hc⟩
  · simp [Value.cells] at hcs
    obtain ⟨rfl, rfl, rfl⟩ := hcs
    exact ⟨[], RecsR.nil _ _, rfl, (fun r hr => by cases hr), by simp⟩
  · simp [Value.cells] at hcs
    obtain ⟨rfl, rfl, rfl⟩ := hcs
    simp only [if_true] at hmm
    have hlw : len * 24 ≤ reachBytes := by
      have := hw ((((List.range len).map D).length + ((List.range (m - len)).map fun j => D (len + j)).length) * Try.prog.bytesOf 22) (by simp [DataW.weights, hu])
      rw [h24] at this
      simp only [List.length_map, List.length_range] at this
      omega
    have each : ∀ i, i < len → ∃ q : Value × List Int, w.cell? (a.add i) = some q.1 ∧ BytR w (fun k => w.heap.size ≤ k) q.1 q.2 ∧ q.2.length ≤ reachBytes := by
      intro i hi
      obtain ⟨cs', h1, h2⟩ := hc i (by omega)
      have ce : Try.prog.cellsOf 22 = 1 := by kernel_rfl
      rw [ce, Nat.mul_one] at h1
      obtain ⟨_, hlen, hcell⟩ := World.cells?_some h1
      match cs', hlen with
      | [v], _ =>
        have hv := hcell 0 (by omega)
        simp only [Addr.add_zero', List.getElem?_cons_zero] at hv
        obtain ⟨ub, un, uc, rfl⟩ := slice_form Try.underlying22 h2
        obtain ⟨xs, hb, hxl, hz⟩ := bytR_of (show DataW.trod enc Try.prog w base (fun _ => true) held n 22 (Value.slice ub un uc).cells.toList = some (D i, Pl i) from h2)
        refine ⟨(.slice ub un uc, xs), hv, hb, ?_⟩
        rcases hz with h0 | ⟨el, sp, hd, hel⟩
        · show xs.length ≤ _; omega
        · have := weights_u8s hd (fun n hn => hw n (by
            simp only [DataW.weights, hu, List.mem_cons, List.mem_append]
            exact .inr (.inl (weights_all _ (D i) (List.mem_map.2 ⟨i, List.mem_range.2 hi, rfl⟩) n hn))))
          show xs.length ≤ _; omega
    obtain ⟨q, hq⟩ := choose_lt each
    refine ⟨(List.range len).map (fun i => (q i).2), ⟨by simp only [List.length_map, List.length_range]; omega, some a, cap, by simp, fun hp => ?_⟩, by simp, fun r hr => ?_, hlw⟩
    · have hp2 : 0 < len := by simpa using hp
      have hz := (hq 0 hp2).1
      have ha := addr_plain hz rfl
      refine ⟨a.block, a.off, by rw [← ha], ⟨by have := World.block_lt_of_cell? w _ hz; rw [ha] at this; simpa [Addr.add] using this, by have := World.block_lt_of_cell? w _ hz; rw [ha] at this; simp [Addr.add] at this; omega⟩, fun j hj => ?_⟩
      have hj2 : j < len := by simpa using hj
      have h1 := (hq j hj2).1
      rw [ha, Addr.add_mid] at h1
      exact ⟨_, h1, by simpa using (hq j hj2).2.1⟩
    · obtain ⟨i, hi, rfl⟩ := List.mem_map.1 hr
      exact (hq i (List.mem_range.1 hi)).2.2
theorem BytR.plain {v : Value} {xs : List Int} (h : BytR w (fun k => w.heap.size ≤ k) v xs) : BytR w (fun _ => False) v xs := h.weaken (fun _ _ h => h.elim)
end
end Go.Proofs.Ytihpobpkhhkejaa
