/-
  How columns and steps that came in read. No condition beyond each lemma's own.
-/
import Derived.Test.YtpiijcjbphpffaaRowS
import Derived.Test.YtpiijcjbphpffaaCBack
set_option autoImplicit false
namespace Go.Proofs.Ytpiijcjbphpffaa
open Go Go.RowKit Go.ChangeShapes Go.WideShapes Go.ChangeAt Go.Deep

theorem slRd_row {α : Type} {w : World} {ao : Option Addr} {len cap s : Nat} {V : Nat → Nat → Value} (f : α → List Value) (hs : ∀ x, (f x).length = s) (h0 : 0 < s) (g : Nat → α) (h : SlRd w ao len s V) (hV : ∀ i j, i < len → j < s → (f (g i))[j]? = some (V i j)) :
    RowAt w (fun b => b < w.heap.size) (.slice ao len cap) len (((List.range len).map g).flatMap f) := by
  refine ⟨ao, cap, rfl, fun hn => ?_⟩
  obtain ⟨b, o, rfl, hb, hc⟩ := h hn
  refine ⟨b, o, rfl, hb, hb, fun k v hk => ?_⟩
  have hlen : (((List.range len).map g).flatMap f).length = len * s := by rw [flatMap_len f s _ (fun x _ => hs x)]; simp
  have hkl : k < len * s := by have := (List.getElem?_eq_some_iff.1 hk).1; rw [hlen] at this; exact this
  have hi : k / s < len := (Nat.div_lt_iff_lt_mul h0).2 hkl
  have hj : k % s < s := Nat.mod_lt _ h0
  have hx : ((List.range len).map g)[k / s]? = some (g (k / s)) := by simp [hi]
  have hch := chunk f s ((List.range len).map g) (fun x _ => hs x) (k / s) _ hx
  have he : (((List.range len).map g).flatMap f)[k]? = (f (g (k / s)))[k % s]? := by
    rw [← hch, List.getElem?_take, if_pos hj, List.getElem?_drop]
    congr 1
    rw [Nat.mul_comm]
    exact (Nat.div_add_mod k s).symm
  rw [he, hV _ _ hi hj] at hk
  obtain rfl := Option.some.inj hk
  have := hc (k / s) (k % s) hi hj
  rw [Nat.add_assoc, Nat.mul_comm, Nat.div_add_mod] at this
  exact this
theorem str1 {V : Value} {H : Type} {enc : TypeId × Value → H} {w : World} {base : Nat} {spare : Nat → Bool} {held : Bool} {n t : Nat} {y : DataW H × List MemPlace} (ht : Try.prog.underlying t = some .string)
    (h : DataW.trod enc Try.prog w base spare held n t [V] = some y) : V = .string (strOf V) ∧ big (strOf V) := by
  obtain ⟨s, e, _, hs⟩ := DataW.trod_string ht h
  simp at e
  subst e
  exact ⟨rfl, by unfold maxLen at hs; show s.size ≤ _; omega⟩
theorem bool1 {V : Value} {H : Type} {enc : TypeId × Value → H} {w : World} {base : Nat} {spare : Nat → Bool} {held : Bool} {n t : Nat} {y : DataW H × List MemPlace} (ht : Try.prog.underlying t = some .bool)
    (h : DataW.trod enc Try.prog w base spare held n t [V] = some y) : V = .bool (boolV V) := by
  obtain ⟨b, rfl⟩ := bool_of ht h
  rfl
theorem colFields : ∃ fs : Array Field, Try.prog.underlying 30 = some (.struct fs) ∧ oneCellFields Try.prog fs = true ∧ Try.prog.cellsOf 30 = fs.size ∧ fs.size = 4 ∧ (∃ f, fs[0]? = some f ∧ f.type = 9) ∧ (∃ f, fs[1]? = some f ∧ f.type = 3) ∧ (∃ f, fs[2]? = some f ∧ f.type = 4) ∧ (∃ f, fs[3]? = some f ∧ f.type = 4) :=
  ⟨_, Try.underlying30, by kernel_rfl, by kernel_rfl, rfl, ⟨_, rfl, rfl⟩, ⟨_, rfl, rfl⟩, ⟨_, rfl, rfl⟩, ⟨_, rfl, rfl⟩⟩
theorem cols_rd {H : Type} {enc : TypeId × Value → H} {w : World} {base : Nat} {held : Bool} {fuel : Nat} {v : Value} {x : DataW H × List MemPlace} (h : DataW.trod enc Try.prog w base (fun _ => true) held fuel 25 [v] = some x) :
    ∃ cs, ColsAt w (fun b => b < w.heap.size) v cs ∧ cs.length ≤ maxLen ∧ ∀ c ∈ cs, big c.name := by
  obtain ⟨ao, len, cap, rfl⟩ := slice_form Try.underlying25 h
  obtain ⟨fs, hu, hone, hC, h4, ⟨f0, e0, t0⟩, ⟨f1, e1, t1⟩, ⟨f2, e2, t2⟩, ⟨f3, e3, t3⟩⟩ := colFields
  obtain ⟨V, hm, hrd, _, hf⟩ := fields_rd (ao := ao) (len := len) (cap := cap) Try.underlying25 hu hone hC (by omega) (by simpa [Value.cells] using h)
  have g0 : ∀ i, i < len → V i 0 = .string (strOf (V i 0)) ∧ big (strOf (V i 0)) := fun i hi => by
    obtain ⟨n, y, h0⟩ := hf i hi 0 f0 e0
    rw [t0] at h0
    exact str1 Try.underlying9 h0
  have g1 : ∀ i, i < len → V i 1 = .int .i64 (intOf (V i 1)) := fun i hi => by
    obtain ⟨n, y, h0⟩ := hf i hi 1 f1 e1
    rw [t1] at h0
    exact (i64_of Try.underlying3 h0).1
  have g2 : ∀ i, i < len → V i 2 = .bool (boolV (V i 2)) := fun i hi => by
    obtain ⟨n, y, h0⟩ := hf i hi 2 f2 e2
    rw [t2] at h0
    exact bool1 Try.underlying4 h0
  have g3 : ∀ i, i < len → V i 3 = .bool (boolV (V i 3)) := fun i hi => by
    obtain ⟨n, y, h0⟩ := hf i hi 3 f3 e3
    rw [t3] at h0
    exact bool1 Try.underlying4 h0
  rw [h4] at hrd
  have hr := slRd_row (cap := cap) Col.cells (fun x => x.len) (by omega) (fun i => (⟨strOf (V i 0), intOf (V i 1), boolV (V i 2), boolV (V i 3)⟩ : Col)) hrd (fun i j hi hj => by
    match j, hj with
    | 0, _ => exact congrArg some (g0 i hi).1.symm
    | 1, _ => exact congrArg some (g1 i hi).symm
    | 2, _ => exact congrArg some (g2 i hi).symm
    | 3, _ => exact congrArg some (g3 i hi).symm)
  refine ⟨(List.range len).map fun i => (⟨strOf (V i 0), intOf (V i 1), boolV (V i 2), boolV (V i 3)⟩ : Col), ?_, ?_, fun c hc => ?_⟩
  · unfold ColsAt colCells
    rw [List.length_map, List.length_range]
    exact hr
  · rw [List.length_map, List.length_range]; exact hm
  · obtain ⟨i, hi, rfl⟩ := List.mem_map.1 hc
    exact (g0 i (List.mem_range.1 hi)).2
set_option maxRecDepth 100000 in
theorem opFields : ∃ fs ft : Array Field, Try.prog.underlying 52 = some (.struct fs) ∧ Try.prog.underlying 27 = some (.struct ft) ∧ Try.prog.cellsOf 52 = 8 ∧ Try.prog.cellsOf 27 = 2 ∧ Try.prog.cellsOf 3 = 1 ∧ Try.prog.cellsOf 9 = 1 ∧ Try.prog.cellsOf 4 = 1 ∧ Try.prog.cellsOf 25 = 1 ∧
    (∃ f, fs[0]? = some f ∧ f.type = 3 ∧ f.offset = 0) ∧ (∃ f, fs[1]? = some f ∧ f.type = 3 ∧ f.offset = 1) ∧ (∃ f, fs[2]? = some f ∧ f.type = 27 ∧ f.offset = 2) ∧ (∃ f, fs[3]? = some f ∧ f.type = 9 ∧ f.offset = 4) ∧ (∃ f, fs[4]? = some f ∧ f.type = 9 ∧ f.offset = 5) ∧ (∃ f, fs[5]? = some f ∧ f.type = 9 ∧ f.offset = 6) ∧ (∃ f, fs[6]? = some f ∧ f.type = 4 ∧ f.offset = 7) ∧
    (∃ f, ft[0]? = some f ∧ f.type = 9 ∧ f.offset = 0) ∧ (∃ f, ft[1]? = some f ∧ f.type = 25 ∧ f.offset = 1) ∧ fs.size = 7 ∧ ft.size = 2 :=
  ⟨_, _, Try.underlying52, Try.underlying27, by kernel_rfl, by kernel_rfl, by kernel_rfl, by kernel_rfl, by kernel_rfl, by kernel_rfl, ⟨_, rfl, rfl, rfl⟩, ⟨_, rfl, rfl, rfl⟩, ⟨_, rfl, rfl, rfl⟩, ⟨_, rfl, rfl, rfl⟩, ⟨_, rfl, rfl, rfl⟩, ⟨_, rfl, rfl, rfl⟩, ⟨_, rfl, rfl, rfl⟩, ⟨_, rfl, rfl, rfl⟩, ⟨_, rfl, rfl, rfl⟩, rfl, rfl⟩
set_option maxRecDepth 100000 in
/-- one step's eight cells -/
theorem op_rd {H : Type} {enc : TypeId × Value → H} {w : World} {base : Nat} {held : Bool} {fuel : Nat} {cs : List Value} {x : DataW H × List MemPlace} (h : DataW.trod enc Try.prog w base (fun _ => true) held fuel 52 cs = some x) :
    ∃ (o : OpR) (u : Value), cs = o.cells u ∧ ColsAt w (fun b => b < w.heap.size) u o.cols ∧ o.ok := by
  obtain ⟨fs, ft, hu, hut, k8, k2, ki, ks, kb, kc, ⟨f0, e0, t0, o0⟩, ⟨f1, e1, t1, o1⟩, ⟨f2, e2, t2, o2⟩, ⟨f3, e3, t3, o3⟩, ⟨f4, e4, t4, o4⟩, ⟨f5, e5, t5, o5⟩, ⟨f6, e6, t6, o6⟩, ⟨g0, d0, s0, p0⟩, ⟨g1, d1, s1, p1⟩, z1, z2⟩ := opFields
  obtain ⟨ys, n, _, _, hl, hyl, hf⟩ := DataW.trod_struct hu h
  rw [k8] at hl
  match cs, hl with
  | [c0, c1, c2, c3, c4, c5, c6, c7], _ =>
    have fld : ∀ (j : Nat) (f : Field), fs[j]? = some f → ∃ y, DataW.trod enc Try.prog w base (fun _ => true) held n f.type (([c0, c1, c2, c3, c4, c5, c6, c7].drop f.offset).take (Try.prog.cellsOf f.type)) = some y := fun j f hj => by
      have := hf j f hj
      have hjl : j < ys.length := by rw [hyl]; exact (Array.getElem?_eq_some_iff.1 hj).1
      exact ⟨_, this.trans (List.getElem?_eq_getElem hjl)⟩
    obtain ⟨y0, h0⟩ := fld 0 f0 e0
    obtain ⟨y1, h1⟩ := fld 1 f1 e1
    obtain ⟨y2, h2⟩ := fld 2 f2 e2
    obtain ⟨y3, h3⟩ := fld 3 f3 e3
    obtain ⟨y4, h4⟩ := fld 4 f4 e4
    obtain ⟨y5, h5⟩ := fld 5 f5 e5
    obtain ⟨y6, h6⟩ := fld 6 f6 e6
    rw [t0, o0, ki] at h0
    rw [t1, o1, ki] at h1
    rw [t2, o2, k2] at h2
    rw [t3, o3, ks] at h3
    rw [t4, o4, ks] at h4
    rw [t5, o5, ks] at h5
    rw [t6, o6, kb] at h6
    simp only [List.drop_zero, List.drop_succ_cons, List.take_succ_cons, List.take_zero] at h0 h1 h2 h3 h4 h5 h6
    obtain ⟨zs, m, _, _, _, hzl, hg⟩ := DataW.trod_struct hut h2
    have gld : ∀ (j : Nat) (f : Field), ft[j]? = some f → ∃ y, DataW.trod enc Try.prog w base (fun _ => true) held m f.type (([c2, c3].drop f.offset).take (Try.prog.cellsOf f.type)) = some y := fun j f hj => by
      have := hg j f hj
      have hjl : j < zs.length := by rw [hzl]; exact (Array.getElem?_eq_some_iff.1 hj).1
      exact ⟨_, this.trans (List.getElem?_eq_getElem hjl)⟩
    obtain ⟨x0, q0⟩ := gld 0 g0 d0
    obtain ⟨x1, q1⟩ := gld 1 g1 d1
    rw [s0, p0, ks] at q0
    rw [s1, p1, kc] at q1
    simp only [List.drop_zero, List.drop_succ_cons, List.take_succ_cons, List.take_zero] at q0 q1
    obtain ⟨cols, hc, hcl, hcb⟩ := cols_rd q1
    have b2 := str1 Try.underlying9 q0
    have b4 := str1 Try.underlying9 h3
    have b5 := str1 Try.underlying9 h4
    have b6 := str1 Try.underlying9 h5
    refine ⟨⟨RowKit.intOf c0, RowKit.intOf c1, strOf c2, cols, strOf c4, strOf c5, strOf c6, boolV c7⟩, c3, ?_, hc, ⟨by unfold maxLen at hcl; show cols.length ≤ _; omega, b2.2, hcb, b4.2⟩⟩
    show [c0, c1, c2, c3, c4, c5, c6, c7] = [.int .i64 (RowKit.intOf c0), .int .i64 (RowKit.intOf c1), .string (strOf c2), c3, .string (strOf c4), .string (strOf c5), .string (strOf c6), .bool (boolV c7)]
    rw [← (i64_of Try.underlying3 h0).1, ← (i64_of Try.underlying3 h1).1, ← b2.1, ← b4.1, ← b5.1, ← b6.1, ← bool1 Try.underlying4 h6]
instance : Inhabited OpR := ⟨⟨0, 0, ⟨#[]⟩, [], ⟨#[]⟩, ⟨#[]⟩, ⟨#[]⟩, false⟩⟩
instance : Inhabited (OpR × Value) := ⟨(default, .bool false)⟩
theorem ops_rd {H : Type} {enc : TypeId × Value → H} {w : World} {base : Nat} {held : Bool} {fuel : Nat} {v : Value} {x : DataW H × List MemPlace} (h : DataW.trod enc Try.prog w base (fun _ => true) held fuel 50 [v] = some x) :
    ∃ ops, OpsAt w (fun b => b < w.heap.size) v ops ∧ ops.length ≤ maxLen ∧ ∀ o ∈ ops, o.ok := by
  have k8 : Try.prog.cellsOf 52 = 8 := by kernel_rfl
  rcases open_slice Try.underlying50 h with ⟨hcs, _⟩ | ⟨a, len, cap, m, n, D, Pl, hcs, _, hl, hm, hmm, _, hc⟩
  · simp at hcs
    subst hcs
    exact ⟨[], ⟨[], rfl, fun i o u hi _ => by simp at hi, RowAt.nil _ _ _ _⟩, by simp, fun o ho => by simp at ho⟩
  · simp at hcs
    subst hcs
    simp only [if_true] at hmm
    have each : ∀ i, i < len → ∃ p : OpR × Value, (∀ j v, (p.1.cells p.2)[j]? = some v → w.cell? (a.add (i * 8 + j)) = some v) ∧ ColsAt w (fun b => b < w.heap.size) p.2 p.1.cols ∧ p.1.ok := fun i hi => by
      obtain ⟨cs', h1, h2⟩ := hc i (by omega)
      rw [k8] at h1
      obtain ⟨o, u, rfl, hco, hok⟩ := op_rd h2
      obtain ⟨_, hlen, hcell⟩ := World.cells?_some h1
      refine ⟨(o, u), fun j v hj => ?_, hco, hok⟩
      have hjl : j < 8 := (List.getElem?_eq_some_iff.1 hj).1
      have := hcell j hjl
      rw [Go.Deep.add_add] at this
      rw [this]; exact hj
    obtain ⟨P, hP⟩ := choose_lt each
    refine ⟨(List.range len).map fun i => (P i).1, ⟨(List.range len).map fun i => (P i).2, by simp, fun i o u hi hu => ?_, ?_⟩, by simp; omega, fun o ho => ?_⟩
    · simp only [List.getElem?_map, Option.map_eq_some_iff] at hi hu
      obtain ⟨i1, hi1, rfl⟩ := hi
      obtain ⟨i2, hi2, rfl⟩ := hu
      have hlt := (List.getElem?_eq_some_iff.1 hi1).1
      simp at hlt
      rw [List.getElem?_range hlt] at hi1 hi2
      obtain rfl := Option.some.inj hi1
      obtain rfl := Option.some.inj hi2
      exact (hP i hlt).2.1
    · have hz : (((List.range len).map fun i => (P i).1).zip ((List.range len).map fun i => (P i).2)) = (List.range len).map P := by
        rw [List.zip_map']
      rw [hz, List.length_map, List.length_range]
      have hr := slRd_row (w := w) (ao := some a) (len := len) (cap := cap) (s := 8) (V := fun i j => ((P i).1.cells (P i).2)[j]?.getD (.bool false)) (fun p : OpR × Value => p.1.cells p.2) (fun _ => rfl) (by omega) P (fun hpos => by
        have hz0 := (hP 0 hpos).1 0 _ rfl
        have ha := addr_plain hz0 (by omega)
        refine ⟨a.block, a.off, by rw [← ha], by have := World.block_lt_of_cell? w _ hz0; rw [ha] at this; simpa [Addr.add] using this, fun i j hi hj => ?_⟩
        have hcl : ((P i).1.cells (P i).2).length = 8 := rfl
        have := (hP i hi).1 j _ (List.getElem?_eq_getElem (by rw [hcl]; exact hj))
        rw [ha, Addr.add_mid] at this
        show w.cell? _ = some (((P i).1.cells (P i).2)[j]?.getD (.bool false))
        rw [List.getElem?_eq_getElem (by rw [hcl]; exact hj)]
        simpa [Nat.add_assoc] using this) (fun i j hi hj => by
        have hcl : ((P i).1.cells (P i).2).length = 8 := rfl
        show ((P i).1.cells (P i).2)[j]? = some (((P i).1.cells (P i).2)[j]?.getD (.bool false))
        rw [List.getElem?_eq_getElem (by rw [hcl]; exact hj)]
        rfl)
      exact hr
    · obtain ⟨i, hi, rfl⟩ := List.mem_map.1 ho
      exact (hP i (List.mem_range.1 hi)).2.2
end Go.Proofs.Ytpiijcjbphpffaa
