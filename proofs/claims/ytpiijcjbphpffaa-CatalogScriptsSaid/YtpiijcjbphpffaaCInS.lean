/-
  How a script that came in reads: columns are as many as memory bears. No condition beyond each lemma's own.
-/
import Derived.Test.YtpiijcjbphpffaaCInR
set_option autoImplicit false
namespace Go.Proofs.Ytpiijcjbphpffaa
open Go Go.RowKit Go.ChangeShapes Go.WideShapes Go.ChangeAt Go.Deep

set_option maxRecDepth 100000 in
theorem op_len {H : Type} {enc : TypeId × Value → H} {w : World} {base : Nat} {held : Bool} {fuel : Nat} {cs : List Value} {x : DataW H × List MemPlace} (h : DataW.trod enc Try.prog w base (fun _ => true) held fuel 52 cs = some x) (hw : ∀ n ∈ x.1.weights Try.prog 52, n ≤ reachBytes) :
    ∀ ao n cap, cs[3]? = some (.slice ao n cap) → n ≤ 4400000000000 := by
  obtain ⟨fs, ft, hu, hut, k8, k2, ki, ks, kb, kc, _, _, ⟨f2, e2, t2, o2⟩, _, _, _, _, _, ⟨g1, d1, s1, p1⟩, z1, z2⟩ := opFields
  obtain ⟨ys, n, _, rfl, hl, hyl, hf⟩ := DataW.trod_struct hu h
  rw [k8] at hl
  match cs, hl with
  | [c0, c1, c2, c3, c4, c5, c6, c7], _ =>
    intro ao m cap hc3
    simp at hc3
    subst hc3
    have hyl2 : 2 < ys.length := by rw [hyl, z1]; omega
    have h2 := hf 2 f2 e2
    rw [t2, o2, k2, List.getElem?_eq_getElem hyl2] at h2
    simp only [List.drop_succ_cons, List.drop_zero, List.take_succ_cons, List.take_zero] at h2
    obtain ⟨zs, m2, _, hz, _, hzl, hg⟩ := DataW.trod_struct hut h2
    have hzl1 : 1 < zs.length := by rw [hzl, z2]; omega
    have h3 := hg 1 g1 d1
    rw [s1, p1, kc, List.getElem?_eq_getElem hzl1] at h3
    simp only [List.drop_succ_cons, List.drop_zero, List.take_succ_cons, List.take_zero] at h3
    rcases open_slice Try.underlying25 h3 with ⟨hcs, _⟩ | ⟨a, l, c, mm, nn, D, Pl, hcs, _, hlc, hm2, hmm, hx, hcc⟩
    · simp at hcs
      omega
    · simp at hcs
      obtain ⟨rfl, rfl, rfl⟩ := hcs
      have hb : Try.prog.bytesOf 30 = 32 := by kernel_rfl
      have := hw ((((List.range m).map D).length + ((List.range (mm - m)).map fun j => D (m + j)).length) * Try.prog.bytesOf 30) (by
        simp only [DataW.weights, hu]
        refine DataW.weights_mem_each (j := 2) (t := 27) (d := ys[2].1) (by rw [List.getElem?_map, Array.getElem?_toList, e2]; simp [t2]) (by rw [List.getElem?_map, List.getElem?_eq_getElem hyl2]; rfl) _ ?_
        rw [hz]
        simp only [DataW.weights, hut]
        refine DataW.weights_mem_each (j := 1) (t := 25) (d := zs[1].1) (by rw [List.getElem?_map, Array.getElem?_toList, d1]; simp [s1]) (by rw [List.getElem?_map, List.getElem?_eq_getElem hzl1]; rfl) _ ?_
        rw [hx]
        simp [DataW.weights, Try.underlying25])
      rw [hb] at this
      simp only [List.length_map, List.length_range] at this
      unfold reachBytes at this
      omega
theorem ops_rdS {H : Type} {enc : TypeId × Value → H} {w : World} {base : Nat} {held : Bool} {fuel : Nat} {v : Value} {x : DataW H × List MemPlace} (h : DataW.trod enc Try.prog w base (fun _ => true) held fuel 50 [v] = some x) (hw : ∀ n ∈ x.1.weights Try.prog 50, n ≤ reachBytes) :
    ∃ ops, OpsAt w (fun b => b < w.heap.size) v ops ∧ ops.length ≤ maxLen ∧ ∀ o ∈ ops, o.ok ∧ o.cols.length ≤ 4400000000000 := by
  have k8 : Try.prog.cellsOf 52 = 8 := by kernel_rfl
  rcases open_slice Try.underlying50 h with ⟨hcs, _⟩ | ⟨a, len, cap, m, n, D, Pl, hcs, _, hl, hm, hmm, rfl, hc⟩
  · simp at hcs
    subst hcs
    exact ⟨[], ⟨[], rfl, fun i o u hi _ => by simp at hi, RowAt.nil _ _ _ _⟩, by simp, fun o ho => by simp at ho⟩
  · simp at hcs
    subst hcs
    simp only [if_true] at hmm
    have each : ∀ i, i < len → ∃ p : OpR × Value, (∀ j v, (p.1.cells p.2)[j]? = some v → w.cell? (a.add (i * 8 + j)) = some v) ∧ ColsAt w (fun b => b < w.heap.size) p.2 p.1.cols ∧ (p.1.ok ∧ p.1.cols.length ≤ 4400000000000) := fun i hi => by
      obtain ⟨cs', h1, h2⟩ := hc i (by omega)
      rw [k8] at h1
      have hol := op_len h2 (fun n hn => hw n (by
        simp only [DataW.weights, Try.underlying50, List.mem_cons, List.mem_append]
        exact .inr (.inl (weights_in _ (D i) (List.mem_map.2 ⟨i, List.mem_range.2 hi, rfl⟩) n hn))))
      obtain ⟨o, u, rfl, hco, hok⟩ := op_rd h2
      have hcl : o.cols.length ≤ 4400000000000 := by
        obtain ⟨ao, cap', rfl, _⟩ := hco
        exact hol ao _ cap' rfl
      obtain ⟨_, hlen, hcell⟩ := World.cells?_some h1
      refine ⟨(o, u), fun j v hj => ?_, hco, hok, hcl⟩
      have hjl : j < 8 := (List.getElem?_eq_some_iff.1 hj).1
      have := hcell j hjl
      rw [Go.Deep.add_add] at this
      rw [this]; exact hj
    obtain ⟨P, hP⟩ := choose_lt each
    refine ⟨(List.range len).map fun i => (P i).1, ⟨(List.range len).map fun i => (P i).2, by simp, fun i o u hi hu => ?_, ?_⟩, by simp; omega, fun o ho => ?_⟩
    · simp only [List.getElem?_map, Option.map_eq_some_iff] at hi hu
      obtain ⟨i1, hi1, rfl⟩ := hi
      obtain ⟨i2, hi2, rfl⟩ := hu
      have hlt := (List.getElem?_eq_some_iff.1 hi1).1
      simp at hlt
      rw [List.getElem?_range hlt] at hi1 hi2
      obtain rfl := Option.some.inj hi1
      obtain rfl := Option.some.inj hi2
      exact (hP i hlt).2.1
    · have hz : (((List.range len).map fun i => (P i).1).zip ((List.range len).map fun i => (P i).2)) = (List.range len).map P := by
        rw [List.zip_map']
      rw [hz, List.length_map, List.length_range]
      have hr := slRd_row (w := w) (ao := some a) (len := len) (cap := cap) (s := 8) (V := fun i j => ((P i).1.cells (P i).2)[j]?.getD (.bool false)) (fun p : OpR × Value => p.1.cells p.2) (fun _ => rfl) (by omega) P (fun hpos => by
        have hz0 := (hP 0 hpos).1 0 _ rfl
        have ha := addr_plain hz0 (by omega)
        refine ⟨a.block, a.off, by rw [← ha], by have := World.block_lt_of_cell? w _ hz0; rw [ha] at this; simpa [Addr.add] using this, fun i j hi hj => ?_⟩
        have hcl : ((P i).1.cells (P i).2).length = 8 := rfl
        have := (hP i hi).1 j _ (List.getElem?_eq_getElem (by rw [hcl]; exact hj))
        rw [ha, Addr.add_mid] at this
        show w.cell? _ = some (((P i).1.cells (P i).2)[j]?.getD (.bool false))
        rw [List.getElem?_eq_getElem (by rw [hcl]; exact hj)]
        simpa [Nat.add_assoc] using this) (fun i j hi hj => by
        have hcl : ((P i).1.cells (P i).2).length = 8 := rfl
        show ((P i).1.cells (P i).2)[j]? = some (((P i).1.cells (P i).2)[j]?.getD (.bool false))
        rw [List.getElem?_eq_getElem (by rw [hcl]; exact hj)]
        rfl)
      exact hr
    · obtain ⟨i, hi, rfl⟩ := List.mem_map.1 ho
      exact (hP i (List.mem_range.1 hi)).2.2
end Go.Proofs.Ytpiijcjbphpffaa
