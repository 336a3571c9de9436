/-
  What the rows' proofs share: slices of structs of one-celled fields that came in. No condition.
  How rows of values, indexes and texts that came in read; what the library's own variables hold. No condition beyond each lemma's own.
-/
import Derived.Test.YtnbckfkdmkbopaaGreatDoorTH48
import Derived.Deep.Slices
import Derived.Deep.Fields
import Derived.ChangeSame
import Derived.SizedLaws
import Derived.Test.YtnbckfkdmkbopaaGreatDoorRows
import Derived.Test.YtnbckfkdmkbopaaGreatDoorTH44
import Derived.Test.YtnbckfkdmkbopaaGreatDoorTH41
import Derived.Shelf.Vars
import Derived.Lib.LaidTab
import Derived.MakeChecks
import Derived.LaidMore
import Derived.Lay
import Derived.Stop.Joined
set_option autoImplicit false
namespace Go.Proofs.YtnbckfkdmkbopaaGreatDoor
open Go.ChangeShapes Go.WideShapes Go.ChangeAt Go.RowKit Go.Deep

section
variable {H : Type} {enc : TypeId × Value → H} {P : Program} {w : World} {base : Nat} {spare : Nat → Bool} {held : Bool}
theorem open_fields {t e : TypeId} {fs : Array Field} {fuel : Nat} {cs : List Value} {x : DataW H × List MemPlace} (ht : P.underlying t = some (.slice e)) (he : P.underlying e = some (.struct fs))
    (hone : oneCellFields P fs = true) (hC : P.cellsOf e = fs.size) (h : DataW.trod enc P w base spare held fuel t cs = some x) :
    (cs = [.slice none 0 0] ∧ x = (.nil, [])) ∨
    ∃ (a : Addr) (len cap m : Nat) (D : Nat → DataW H) (Pl : Nat → List MemPlace), cs = [.slice (some a) len cap] ∧ base ≤ a.block ∧ len ≤ cap ∧ cap ≤ maxLen ∧ m = (if spare a.block then cap else len) ∧
      x = (.slice ((List.range len).map D) ((List.range (m - len)).map fun j => D (len + j)), MemPlace.row a (m * fs.size) ++ (List.range m).flatMap Pl) ∧
      ∀ i, i < m → ∃ (n : Nat), ∀ (j : Nat) (f : Field), fs[j]? = some f → ∃ (v : Value) (y : DataW H × List MemPlace), w.cell? (a.add (i * fs.size + j)) = some v ∧ DataW.trod enc P w base spare held n f.type [v] = some y := by
  rcases open_slice ht h with h0 | ⟨a, len, cap, m, n, D, Pl, hcs, hb, hl, hm, hmm, hx, hi⟩
  · exact .inl h0
  · refine .inr ⟨a, len, cap, m, D, Pl, hcs, hb, hl, hm, hmm, by rw [hC] at hx; exact hx, fun i him => ?_⟩
    obtain ⟨cs', hc, ht'⟩ := hi i him
    rw [hC] at hc
    obtain ⟨ys, n', hn', hy, hlen, hyl, hf⟩ := DataW.trod_struct he ht'
    obtain ⟨_, hcl, hat⟩ := World.cells?_some hc
    refine ⟨n', fun j f hj => ?_⟩
    obtain ⟨ho, hk⟩ := hone_of hone j f hj
    have hjl : j < fs.size := (Array.getElem?_eq_some_iff.1 hj).1
    have hcell := hat j hjl
    have hv : cs'[j]? = some (cs'[j]'(by omega)) := List.getElem?_eq_getElem (by omega)
    have h1 := hf j f hj
    rw [ho, hk] at h1
    have hone' : (cs'.drop j).take 1 = [cs'[j]'(by omega)] := by
      rw [List.drop_eq_getElem_cons (by omega)]
      rfl
    rw [hone'] at h1
    have hys : ys[j]? = some (ys[j]'(by omega)) := List.getElem?_eq_getElem (by omega)
    refine ⟨_, _, ?_, h1.trans hys⟩
    rw [← Go.Deep.add_add, hcell, hv]
/-- a slice of structs, told to a walk -/
theorem fields_rd {t e : TypeId} {fs : Array Field} {fuel : Nat} {ao : Option Addr} {len cap : Nat} {x : DataW H × List MemPlace} (ht : P.underlying t = some (.slice e)) (he : P.underlying e = some (.struct fs))
    (hone : oneCellFields P fs = true) (hC : P.cellsOf e = fs.size) (h0 : 0 < fs.size) (h : DataW.trod enc P w base (fun _ => true) held fuel t (Value.slice ao len cap).cells.toList = some x) :
    ∃ V : Nat → Nat → Value, len ≤ maxLen ∧ SlRd w ao len fs.size V ∧ (len = 0 ∨ ∃ el sp, x.1 = .slice el sp ∧ el.length = len) ∧
      ∀ i, i < len → ∀ j f, fs[j]? = some f → ∃ n y, DataW.trod enc P w base (fun _ => true) held n f.type [V i j] = some y := by
  rcases open_fields ht he hone hC h with ⟨hcs, _⟩ | ⟨a, l, c, m, D, Pl, hcs, _, hl, hm, hmm, hx, hc⟩
  · simp [Value.cells] at hcs
    obtain ⟨rfl, rfl, rfl⟩ := hcs
    exact ⟨fun _ _ => undef, Nat.zero_le _, fun h => by omega, .inl rfl, fun i hi => by omega⟩
  · simp [Value.cells] at hcs
    obtain ⟨rfl, rfl, rfl⟩ := hcs
    simp only [if_true] at hmm
    refine ⟨fun i j => (w.cell? (a.add (i * fs.size + j))).getD undef, by omega, fun hpos => ?_, .inr ⟨_, _, by rw [hx], by simp⟩, fun i hi j f hj => ?_⟩
    · obtain ⟨n, hn⟩ := hc 0 (by omega)
      obtain ⟨v, y, hz, _⟩ := hn 0 _ (Array.getElem?_eq_getElem h0)
      have ha := addr_plain hz (by omega)
      refine ⟨a.block, a.off, by rw [← ha], by have := World.block_lt_of_cell? w _ hz; rw [ha] at this; simpa [Addr.add] using this, fun i j hi hj => ?_⟩
      obtain ⟨n', hn'⟩ := hc i (by omega)
      obtain ⟨v', y', hz', _⟩ := hn' j _ (Array.getElem?_eq_getElem hj)
      simp only [hz', Option.getD_some]
      rw [← hz', ha, Addr.add_mid]
      simp [Nat.add_assoc]
    · obtain ⟨n', hn'⟩ := hc i (by omega)
      obtain ⟨v', y', hz', ht'⟩ := hn' j f hj
      exact ⟨n', y', by simpa only [hz', Option.getD_some] using ht'⟩
theorem slice_form {t e : TypeId} {fuel : Nat} {V : Value} {x : DataW H × List MemPlace} (ht : P.underlying t = some (.slice e)) (h : DataW.trod enc P w base spare held fuel t [V] = some x) : ∃ ao l c, V = .slice ao l c := by
  rcases open_slice ht h with ⟨hcs, _⟩ | ⟨a, l, c, m, n, D, Pl, hcs, _⟩
  · exact ⟨none, 0, 0, by simpa using hcs⟩
  · exact ⟨some a, l, c, by simpa using hcs⟩
end
end Go.Proofs.YtnbckfkdmkbopaaGreatDoor

set_option autoImplicit false
namespace Go.Proofs.YtnbckfkdmkbopaaGreatDoor
open Go Go.RowKit Go.ChangeShapes Go.WideShapes Go.ChangeAt Go.Deep

theorem slRd_row {α : Type} {w : World} {ao : Option Addr} {len cap s : Nat} {V : Nat → Nat → Value} (f : α → List Value) (hs : ∀ x, (f x).length = s) (h0 : 0 < s) (g : Nat → α) (h : SlRd w ao len s V) (hV : ∀ i j, i < len → j < s → (f (g i))[j]? = some (V i j)) :
    RowAt w (fun b => b < w.heap.size) (.slice ao len cap) len (((List.range len).map g).flatMap f) := by
  refine ⟨ao, cap, rfl, fun hn => ?_⟩
  obtain ⟨b, o, rfl, hb, hc⟩ := h hn
  refine ⟨b, o, rfl, hb, hb, fun k v hk => ?_⟩
  have hlen : (((List.range len).map g).flatMap f).length = len * s := by rw [flatMap_len f s _ (fun x _ => hs x)]; simp
  have hkl : k < len * s := by have := (List.getElem?_eq_some_iff.1 hk).1; rw [hlen] at this; exact this
  have hi : k / s < len := (Nat.div_lt_iff_lt_mul h0).2 hkl
  have hj : k % s < s := Nat.mod_lt _ h0
  have hx : ((List.range len).map g)[k / s]? = some (g (k / s)) := by simp [hi]
  have hch := chunk f s ((List.range len).map g) (fun x _ => hs x) (k / s) _ hx
  have he : (((List.range len).map g).flatMap f)[k]? = (f (g (k / s)))[k % s]? := by
    rw [← hch, List.getElem?_take, if_pos hj, List.getElem?_drop]
    congr 1
    rw [Nat.mul_comm]
    exact (Nat.div_add_mod k s).symm
  rw [he, hV _ _ hi hj] at hk
  obtain rfl := Option.some.inj hk
  have := hc (k / s) (k % s) hi hj
  rw [Nat.add_assoc, Nat.mul_comm, Nat.div_add_mod] at this
  exact this
def strL : Value → Str
  | .string s => s.data.toList
  | _ => []
def boolV : Value → Bool
  | .bool b => b
  | _ => false
theorem str1 {V : Value} {H : Type} {enc : TypeId × Value → H} {w : World} {base : Nat} {spare : Nat → Bool} {held : Bool} {n t : Nat} {y : DataW H × List MemPlace} (ht : Tryz.prog.underlying t = some .string)
    (h : DataW.trod enc Tryz.prog w base spare held n t [V] = some y) : V = sv (strL V) := by
  obtain ⟨s, e, _, hs⟩ := DataW.trod_string ht h
  simp at e
  subst e
  simp [strL]
theorem bool1 {V : Value} {H : Type} {enc : TypeId × Value → H} {w : World} {base : Nat} {spare : Nat → Bool} {held : Bool} {n t : Nat} {y : DataW H × List MemPlace} (ht : Tryz.prog.underlying t = some .bool)
    (h : DataW.trod enc Tryz.prog w base spare held n t [V] = some y) : V = .bool (boolV V) := by
  obtain ⟨b, rfl⟩ := bool_of ht h
  rfl
theorem valFields : ∃ fs : Array Field, Tryz.prog.underlying 26 = some (.struct fs) ∧ oneCellFields Tryz.prog fs = true ∧ Tryz.prog.cellsOf 26 = fs.size ∧ fs.size = 3 ∧ (∃ f, fs[0]? = some f ∧ f.type = 3) ∧ (∃ f, fs[1]? = some f ∧ f.type = 2) ∧ (∃ f, fs[2]? = some f ∧ f.type = 9) :=
  ⟨_, Tryz.underlying26, by kernel_rfl, by kernel_rfl, rfl, ⟨_, rfl, rfl⟩, ⟨_, rfl, rfl⟩, ⟨_, rfl, rfl⟩⟩
theorem idxFields : ∃ fs : Array Field, Tryz.prog.underlying 73 = some (.struct fs) ∧ oneCellFields Tryz.prog fs = true ∧ Tryz.prog.cellsOf 73 = fs.size ∧ fs.size = 4 ∧ (∃ f, fs[0]? = some f ∧ f.type = 9) ∧ (∃ f, fs[1]? = some f ∧ f.type = 9) ∧ (∃ f, fs[2]? = some f ∧ f.type = 3) ∧ (∃ f, fs[3]? = some f ∧ f.type = 4) :=
  ⟨_, Tryz.underlying73, by kernel_rfl, by kernel_rfl, rfl, ⟨_, rfl, rfl⟩, ⟨_, rfl, rfl⟩, ⟨_, rfl, rfl⟩, ⟨_, rfl, rfl⟩⟩
section
variable {H : Type} {enc : TypeId × Value → H} {w : World} {base : Nat} {held : Bool}
theorem vals_rd {fuel : Nat} {v : Value} {x : DataW H × List MemPlace} (h : DataW.trod enc Tryz.prog w base (fun _ => true) held fuel 41 [v] = some x) :
    ∃ l, ValsAt w (fun b => b < w.heap.size) v l ∧ (l.length = 0 ∨ ∃ el sp, x.1 = .slice el sp ∧ el.length = l.length) ∧ ∀ c ∈ l, c.num ≤ 9223372036854775807 := by
  obtain ⟨ao, len, cap, rfl⟩ := slice_form Tryz.underlying41 h
  obtain ⟨fs, hu, hone, hC, h4, ⟨f0, e0, t0⟩, ⟨f1, e1, t1⟩, ⟨f2, e2, t2⟩⟩ := valFields
  obtain ⟨V, hm, hrd, hel, hf⟩ := fields_rd (ao := ao) (len := len) (cap := cap) Tryz.underlying41 hu hone hC (by omega) (by simpa [Value.cells] using h)
  have g0 : ∀ i, i < len → V i 0 = .int .i64 (intOf (V i 0)) := fun i hi => by
    obtain ⟨n, y, h0⟩ := hf i hi 0 f0 e0
    rw [t0] at h0
    exact (i64_of Tryz.underlying3 h0).1
  have g1 : ∀ i, i < len → V i 1 = .int .i64 (intOf (V i 1)) ∧ intOf (V i 1) ≤ 9223372036854775807 := fun i hi => by
    obtain ⟨n, y, h0⟩ := hf i hi 1 f1 e1
    rw [t1] at h0
    exact ⟨(i64_of Tryz.underlying2 h0).1, (i64_of Tryz.underlying2 h0).2.2⟩
  have g2 : ∀ i, i < len → V i 2 = sv (strL (V i 2)) := fun i hi => by
    obtain ⟨n, y, h0⟩ := hf i hi 2 f2 e2
    rw [t2] at h0
    exact str1 Tryz.underlying9 h0
  rw [h4] at hrd
  have hr := slRd_row (cap := cap) Val.cells (fun x => x.len) (by omega) (fun i => (⟨intOf (V i 0), intOf (V i 1), strL (V i 2)⟩ : Val)) hrd (fun i j hi hj => by
    match j, hj with
    | 0, _ => exact congrArg some (g0 i hi).symm
    | 1, _ => exact congrArg some (g1 i hi).1.symm
    | 2, _ => exact congrArg some (g2 i hi).symm)
  refine ⟨(List.range len).map fun i => (⟨intOf (V i 0), intOf (V i 1), strL (V i 2)⟩ : Val), ?_, ?_, fun c hc => ?_⟩
  · unfold ValsAt valCells
    rw [List.length_map, List.length_range]
    exact hr
  · rw [List.length_map, List.length_range]; exact hel
  · obtain ⟨i, hi, rfl⟩ := List.mem_map.1 hc
    exact (g1 i (List.mem_range.1 hi)).2
theorem idxs_rd {fuel : Nat} {v : Value} {x : DataW H × List MemPlace} (h : DataW.trod enc Tryz.prog w base (fun _ => true) held fuel 23 [v] = some x) :
    ∃ l, IdxsAt w (fun b => b < w.heap.size) v l ∧ (l.length = 0 ∨ ∃ el sp, x.1 = .slice el sp ∧ el.length = l.length) := by
  obtain ⟨ao, len, cap, rfl⟩ := slice_form Tryz.underlying23 h
  obtain ⟨fs, hu, hone, hC, h4, ⟨f0, e0, t0⟩, ⟨f1, e1, t1⟩, ⟨f2, e2, t2⟩, ⟨f3, e3, t3⟩⟩ := idxFields
  obtain ⟨V, hm, hrd, hel, hf⟩ := fields_rd (ao := ao) (len := len) (cap := cap) Tryz.underlying23 hu hone hC (by omega) (by simpa [Value.cells] using h)
  have g0 : ∀ i, i < len → V i 0 = sv (strL (V i 0)) := fun i hi => by
    obtain ⟨n, y, h0⟩ := hf i hi 0 f0 e0
    rw [t0] at h0
    exact str1 Tryz.underlying9 h0
  have g1 : ∀ i, i < len → V i 1 = sv (strL (V i 1)) := fun i hi => by
    obtain ⟨n, y, h0⟩ := hf i hi 1 f1 e1
    rw [t1] at h0
    exact str1 Tryz.underlying9 h0
  have g2 : ∀ i, i < len → V i 2 = .int .i64 (intOf (V i 2)) := fun i hi => by
    obtain ⟨n, y, h0⟩ := hf i hi 2 f2 e2
    rw [t2] at h0
    exact (i64_of Tryz.underlying3 h0).1
  have g3 : ∀ i, i < len → V i 3 = .bool (boolV (V i 3)) := fun i hi => by
    obtain ⟨n, y, h0⟩ := hf i hi 3 f3 e3
    rw [t3] at h0
    exact bool1 Tryz.underlying4 h0
  rw [h4] at hrd
  have hr := slRd_row (cap := cap) IdxR.cells (fun _ => rfl) (by omega) (fun i => (⟨strL (V i 0), strL (V i 1), intOf (V i 2), boolV (V i 3)⟩ : IdxR)) hrd (fun i j hi hj => by
    match j, hj with
    | 0, _ => exact congrArg some (g0 i hi).symm
    | 1, _ => exact congrArg some (g1 i hi).symm
    | 2, _ => exact congrArg some (g2 i hi).symm
    | 3, _ => exact congrArg some (g3 i hi).symm)
  refine ⟨(List.range len).map fun i => (⟨strL (V i 0), strL (V i 1), intOf (V i 2), boolV (V i 3)⟩ : IdxR), ?_, ?_⟩
  · unfold IdxsAt idxCells
    rw [List.length_map, List.length_range]
    exact hr
  · rw [List.length_map, List.length_range]; exact hel
theorem weights_vals {d : DataW H} {el sp : List (DataW H)} (hd : d = .slice el sp) (h : ∀ n ∈ d.weights Tryz.prog 41, n ≤ reachBytes) : el.length * 32 ≤ reachBytes := by
  subst hd
  have hu := Tryz.underlying41
  have h1 : Tryz.prog.bytesOf 26 = 32 := by kernel_rfl
  have := h ((el.length + sp.length) * Tryz.prog.bytesOf 26) (by simp [DataW.weights, hu])
  rw [h1] at this
  omega
theorem weights_idxs {d : DataW H} {el sp : List (DataW H)} (hd : d = .slice el sp) (h : ∀ n ∈ d.weights Tryz.prog 23, n ≤ reachBytes) : el.length * 48 ≤ reachBytes := by
  subst hd
  have hu := Tryz.underlying23
  have h1 : Tryz.prog.bytesOf 73 = 48 := by kernel_rfl
  have := h ((el.length + sp.length) * Tryz.prog.bytesOf 73) (by simp [DataW.weights, hu])
  rw [h1] at this
  omega
theorem weights_in {e : TypeId} : ∀ (l : List (DataW H)) (d : DataW H), d ∈ l → ∀ n ∈ d.weights Tryz.prog e, n ∈ DataW.weightsAll Tryz.prog e l
  | [], _, h, _, _ => by cases h
  | y :: l, d, h, n, hn => by
    simp only [DataW.weightsAll, List.mem_append]
    rcases List.mem_cons.1 h with rfl | h
    · exact .inl hn
    · exact .inr (weights_in l d h n hn)
/-- a list of rows of values that came in -/
theorem rows_rd {fuel : Nat} {v : Value} {x : DataW H × List MemPlace} (h : DataW.trod enc Tryz.prog w base (fun _ => true) held fuel 22 [v] = some x) (hw : ∀ n ∈ x.1.weights Tryz.prog 22, n ≤ reachBytes) :
    ∃ rows, RowsAt w (fun b => b < w.heap.size) v rows ∧ rows.length ≤ 100000000000000 ∧ ∀ r ∈ rows, r.length ≤ 100000000000000 ∧ ∀ c ∈ r, c.num ≤ 9223372036854775807 := by
  have hu := Tryz.underlying22
  have h24 : Tryz.prog.bytesOf 41 = 24 := by kernel_rfl
  rcases open_slice Tryz.underlying22 h with ⟨hcs, _⟩ | ⟨a, len, cap, m, n, D, Pl, hcs, _, hl, hm, hmm, rfl, hc⟩
  · simp at hcs
    subst hcs
    exact ⟨[], ⟨[], ⟨rfl, fun i r u hr _ => by simp at hr⟩, RowAt.nil _ _ _ _⟩, by simp, fun row hr => by simp at hr⟩
  · simp at hcs
    subst hcs
    simp only [if_true] at hmm
    have hlw : len * 24 ≤ reachBytes := by
      have := hw ((((List.range len).map D).length + ((List.range (m - len)).map fun j => D (len + j)).length) * Tryz.prog.bytesOf 41) (by simp [DataW.weights, hu])
      rw [h24] at this
      simp only [List.length_map, List.length_range] at this
      omega
    have each : ∀ i, i < len → ∃ q : Value × List Val, w.cell? (a.add i) = some q.1 ∧ ValsAt w (fun b => b < w.heap.size) q.1 q.2 ∧ q.2.length ≤ 4400000000000 ∧ ∀ c ∈ q.2, c.num ≤ 9223372036854775807 := by
      intro i hi
      obtain ⟨cs', h1, h2⟩ := hc i (by omega)
      have ce : Tryz.prog.cellsOf 41 = 1 := by kernel_rfl
      rw [ce, Nat.mul_one] at h1
      obtain ⟨_, hlen, hcell⟩ := World.cells?_some h1
      match cs', hlen with
      | [u], _ =>
        have hv := hcell 0 (by omega)
        simp only [Addr.add_zero', List.getElem?_cons_zero] at hv
        obtain ⟨l, hla, hz, hb⟩ := vals_rd h2
        refine ⟨(u, l), hv, hla, ?_, hb⟩
        rcases hz with h0 | ⟨el, sp, hd, hel⟩
        · show l.length ≤ _; omega
        · have := weights_vals hd (fun n hn => hw n (by
            simp only [DataW.weights, hu, List.mem_cons, List.mem_append]
            exact .inr (.inl (weights_in _ (D i) (List.mem_map.2 ⟨i, List.mem_range.2 hi, rfl⟩) n hn))))
          unfold reachBytes at this
          show l.length ≤ _; omega
    obtain ⟨q, hq⟩ := choose_lt each
    refine ⟨(List.range len).map (fun i => (q i).2), ⟨(List.range len).map (fun i => (q i).1), ⟨by simp, fun i r u hi hu => ?_⟩, ?_⟩, ?_, fun row hr => ?_⟩
    · simp only [List.getElem?_map, Option.map_eq_some_iff] at hi hu
      obtain ⟨i1, hi1, rfl⟩ := hi
      obtain ⟨i2, hi2, rfl⟩ := hu
      have hlt := (List.getElem?_eq_some_iff.1 hi1).1
      simp at hlt
      rw [List.getElem?_range hlt] at hi1 hi2
      obtain rfl := Option.some.inj hi1
      obtain rfl := Option.some.inj hi2
      exact (hq i hlt).2.1
    · rw [List.length_map, List.length_range]
      refine ⟨some a, cap, rfl, fun hpos => ?_⟩
      have hz := (hq 0 hpos).1
      have ha := addr_plain hz rfl
      have hbl : a.block < w.heap.size := by have := World.block_lt_of_cell? w _ hz; rw [ha] at this; simpa [Addr.add] using this
      refine ⟨a.block, a.off, by rw [← ha], hbl, hbl, fun j u hj => ?_⟩
      have hj2 : j < len := by have := (List.getElem?_eq_some_iff.1 hj).1; simpa using this
      rw [List.getElem?_map, List.getElem?_range hj2] at hj
      obtain rfl := Option.some.inj hj
      have h1 := (hq j hj2).1
      rw [ha, Addr.add_mid] at h1
      exact h1
    · rw [List.length_map, List.length_range]; unfold reachBytes at hlw; omega
    · obtain ⟨i, hi, rfl⟩ := List.mem_map.1 hr
      have := (hq i (List.mem_range.1 hi)).2.2
      exact ⟨by omega, this.2⟩
end
/-! what the library's own variables hold -/
theorem laidVars_reads {P : Program} {w : World} : ∀ {l : List (String × DataW Unit)} {ps : List MemPlace}, DataW.LaidVars P w l ps → ∀ n d, (n, d) ∈ l →
    ∃ g t cs fuel p, P.globalNamed n = some g ∧ (P.globals[g]?).map (·.type) = some t ∧ w.var? P n = some cs ∧ DataW.trod (fun _ => ()) P w 0 (fun _ => true) false fuel t cs.toList = some (d, p)
  | [], _, _, _, _, hm => by cases hm
  | (n', d') :: r, ps, h, n, d, hm => by
    obtain ⟨g, t, cs, fuel, p, q, h1, h2, h3, h4, h5, _⟩ := h
    rcases List.mem_cons.1 hm with e | e
    · cases e
      exact ⟨g, t, cs, fuel, p, h1, h2, h3, h4⟩
    · exact laidVars_reads h5 n d e
theorem space_tab : (Rows.laid_strings_asciiSpace : DataW Unit) = Lib.tabData .u8 Lib.asciiSpaceTab := by kernel_rfl
theorem glob_of {L : List (String × DataW Unit)} {W : World} (hL : laidMetH Tryz.prog L W) (hn : (L.all fun x => x.2.handleName?.isNone) = true) (hm : ("strings.asciiSpace", Rows.laid_strings_asciiSpace) ∈ L) (hs : W.ShapedOpen Tryz.prog) : Glob W ∧ 10 ≤ W.heap.size := by
  rw [MakeChecks.laidMetH_plain _ _ _ hn] at hL
  obtain ⟨ps, hv, _⟩ := hL
  obtain ⟨g, t, cs, fuel, p, h1, h2, h3, h4⟩ := laidVars_reads hv _ _ hm
  obtain rfl := Option.some.inj ((show Tryz.prog.globalNamed "strings.asciiSpace" = some 2 by kernel_rfl).symm.trans h1)
  obtain rfl := Option.some.inj ((show (Tryz.prog.globals[2]?).map (·.type) = some 234 by kernel_rfl).symm.trans h2)
  rw [space_tab] at h4
  have hc := Lib.cells_of_tab Tryz.underlying234 Tryz.underlying5 (by kernel_rfl) (by kernel_rfl) h4
  have ht : Lib.TabIs Tryz.prog W "strings.asciiSpace" .u8 Lib.asciiSpaceTab := by
    unfold Lib.TabIs
    rw [h3, ← hc]
  refine ⟨⟨cell_of_shapedOpen_int (zero := #[.int .i64 0]) (t := 3) hs (of_decide_eq_true (by kernel_rfl)) (by kernel_rfl) rfl (by kernel_rfl) (by kernel_rfl) Tryz.underlying3, fun c hc => ?_⟩, ?_⟩
  · rw [ht.cell (by kernel_rfl) c (by rw [Lib.asciiSpaceTab_length]; exact hc), Lib.asciiSpaceTab_at c hc]
  · obtain ⟨o, _, h9, _⟩ := hs.2 10 (of_decide_eq_true (by kernel_rfl)) (of_decide_eq_true (by kernel_rfl))
    rcases Nat.lt_or_ge 10 W.heap.size with h | h
    · omega
    · rw [Array.getElem?_eq_none_iff.2 h] at h9
      cases h9
/-- the row's wrap: what is laid, and the world's shape, handed on -/
theorem returnsInHanded_laid_shaped {H : Type} {enc : TypeId × Value → H} {a : Assume} {C : Checked} {os : Os} {f : FuncId} {fn : Func} {s : ChangeSpec} {conds : List PathCond} {apart fresh handsOn again : Bool} {X : World → Array Value → Prop}
    (hX : ∀ (w w' : World) (args : Array Value), w.heap = w'.heap → X w args → X w' args)
    (own : ownKnob C.prog.godebug = none) (started : os.Started) (noInit : C.prog.inits.idxOf? f = none) (hfn : C.prog.funcs[f]? = some fn)
    (witness : ∃ (w : World) (tape : Tape) (i : Input), w.os = os ∧ (w.forCall tape i).Shaped C.prog ∧ i.vars = [] ∧ Input.okWide C.prog (w.forCall tape i) .any w.heap.size f i ∧
      ((s.pre enc C.prog fn conds apart (w.forCall tape i).memory i.args ∧ X (w.forCall tape i).memory i.args) ∧ sizedMet enc C.prog fn (OpenSpec.ofChange s) apart (w.forCall tape i).memory i.args) ∧ a.holds C.prog (lone (Frame.enter C.prog f i.args .normal) [] (w.forCall tape i)))
    (contract : ∀ (W : World) (base : Nat) (args : Array Value) (ds gs : List (DataW H)) (before : List MemPlace),
      (∀ (j : Nat) t v, fn.params[j]? = some t → args[j]? = some v → Value.okWide C.prog W .any base t v) →
      DataW.Whole enc C.prog fn.params.toList s.vars apart W args.toList ds gs before →
      (DataW.weightsEach C.prog (fn.params.toList ++ s.plain.varTypes C.prog) (ds ++ gs)).all (· ≤ reachBytes) = true → X W args → W.ShapedOpen C.prog →
      Calls C.prog f args W fun e W' => ∃ v, e = .returned v ∧ s.post enc C.prog fn apart fresh handsOn again W args v W') :
    ReturnsInHanded a C os f .any (fun w args => (s.pre enc C.prog fn conds apart w args ∧ X w args) ∧ sizedMet enc C.prog fn (OpenSpec.ofChange s) apart w args) (s.post enc C.prog fn apart fresh handsOn again) := by
  refine returnsInHanded_of_calls own started noInit witness ?_
  intro w tape i _ hsh _ hok hpre hholds
  obtain ⟨_, _, _, fn', hfn', _, _, _, _, hval⟩ := hok
  have e : fn' = fn := Option.some.inj (hfn'.symm.trans hfn)
  subst e
  obtain ⟨⟨⟨ds, gs, before, hw, hc⟩, hx⟩, hz⟩ := hpre
  have hw' := DataW.Whole.of_heap (w' := w.forCall tape i) (by rfl) hw
  refine (contract (w.forCall tape i) w.heap.size i.args ds gs before hval hw' (hz.weights hw) (hX _ _ _ (by rfl) hx) hsh).mono fun e W' ⟨v, he, hp⟩ => ?_
  subst he
  exact ChangeSpec.post_blind hp
end Go.Proofs.YtnbckfkdmkbopaaGreatDoor
