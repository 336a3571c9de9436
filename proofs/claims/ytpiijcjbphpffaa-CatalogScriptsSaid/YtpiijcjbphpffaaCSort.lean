/-
  A row of indexes, sorted by name. No condition beyond each lemma's own.
-/
import Derived.Test.YtpiijcjbphpffaaCAddT
import Derived.Test.YtpiijcjbphpffaaCLay
set_option autoImplicit false
namespace Go.Proofs.Ytpiijcjbphpffaa
open Go Go.RowKit Go.Lib Go.Sort

/-! strings by their bytes -/
def nLt (a b : ByteArray) : Bool := decide (a.data.toList < b.data.toList)
def nLe (a b : ByteArray) : Bool := !nLt b a
theorem bytes_inj {a b : ByteArray} (h : a.data.toList = b.data.toList) : a = b := by
  obtain ⟨⟨x⟩⟩ := a
  obtain ⟨⟨y⟩⟩ := b
  simp at h
  rw [h]
theorem nLt_irrefl (a : ByteArray) : nLt a a = false := by unfold nLt; simp
theorem nLt_trans {a b c : ByteArray} (h : nLt a b = true) (k : nLt b c = true) : nLt a c = true := by
  unfold nLt at *
  simp only [decide_eq_true_eq] at *
  exact List.lt_trans h k
theorem nLt_tri {a b : ByteArray} (h : nLt a b = false) (k : nLt b a = false) : a = b := by
  unfold nLt at *
  simp only [decide_eq_false_iff_not] at *
  exact bytes_inj (List.le_antisymm (List.not_lt.1 k) (List.not_lt.1 h))
theorem nLt_asymm {a b : ByteArray} (h : nLt a b = true) : nLt b a = false := by
  cases k : nLt b a with
  | false => rfl
  | true =>
    have := nLt_trans h k
    rw [nLt_irrefl] at this
    cases this
theorem nLt_ntrans {a b c : ByteArray} (h : nLt a b = false) (k : nLt b c = false) : nLt a c = false := by
  cases hac : nLt a c with
  | false => rfl
  | true =>
    cases hcb : nLt c b with
    | true => rw [nLt_trans hac hcb] at h; cases h
    | false =>
      have := nLt_tri k hcb
      subst this
      rw [hac] at h; cases h
theorem nLe_total (a b : ByteArray) : (nLe a b || nLe b a) = true := by
  unfold nLe
  cases h : nLt b a with
  | false => rfl
  | true => rw [nLt_asymm h]; rfl
theorem nLe_trans {a b c : ByteArray} (h : nLe a b = true) (k : nLe b c = true) : nLe a c = true := by
  unfold nLe at *
  simp only [Bool.not_eq_true'] at *
  exact nLt_ntrans k h
/-- two lists that hold the same and rise alike are one -/
theorem rises_eq {α : Type} {f : α → ByteArray} {l m : List α} (hp : l.Perm m) (hn : (l.map f).Nodup) (hl : l.Pairwise fun x y => nLe (f x) (f y) = true) (hm : m.Pairwise fun x y => nLe (f x) (f y) = true) : l = m := by
  refine List.Perm.eq_of_pairwise (le := fun x y => nLe (f x) (f y) = true) ?_ hl hm hp
  intro a b ha hb h1 h2
  have hb' : b ∈ l := hp.mem_iff.2 hb
  have he : f a = f b := nLt_tri (by unfold nLe at h2; simpa using h2) (by unfold nLe at h1; simpa using h1)
  obtain ⟨i, hi, rfl⟩ := List.getElem_of_mem ha
  obtain ⟨j, hj, rfl⟩ := List.getElem_of_mem hb'
  rcases Nat.lt_trichotomy i j with hij | hij | hij
  · exact absurd (by rw [List.getElem_map, List.getElem_map]; exact he) (List.pairwise_iff_getElem.1 hn i j (by simpa using hi) (by simpa using hj) hij)
  · subst hij; rfl
  · exact absurd (by rw [List.getElem_map, List.getElem_map]; exact he.symm) (List.pairwise_iff_getElem.1 hn j i (by simpa using hj) (by simpa using hi) hij)
def byName (l : List Ix) : List Ix := l.mergeSort fun x y => nLe x.name y.name
theorem byName_perm (l : List Ix) : (byName l).Perm l := List.mergeSort_perm _ _
theorem byName_rises (l : List Ix) : (byName l).Pairwise fun x y => nLe x.name y.name = true :=
  List.pairwise_mergeSort (le := fun x y : Ix => nLe x.name y.name) (fun _ _ _ h k => nLe_trans h k) (fun x y => nLe_total x.name y.name) l

/-! the comparer, and the sort -/
def ixCmp (x y : Ix) : Int := if nLt x.name y.name then -1 else if nLt y.name x.name then 1 else 0
instance : Inhabited Ix := ⟨⟨⟨#[]⟩, ⟨#[]⟩, 0, false⟩⟩
theorem ltOf_ix (x y : Ix) : ltOf ixCmp x y = nLt x.name y.name := by
  unfold ltOf ixCmp
  cases h : nLt x.name y.name with
  | true => simp
  | false => cases k : nLt y.name x.name <;> simp
theorem swo_ix : SWO (ltOf ixCmp) where
  irrefl x := by rw [ltOf_ix]; exact nLt_irrefl _
  trans x y z h k := by rw [ltOf_ix] at *; exact nLt_trans h k
  ntrans x y z h k := by rw [ltOf_ix] at *; exact nLt_ntrans h k
theorem cmadeF_any (x y : Ix) (W : World) : Calls Try.prog 55 #[.agg #[.string x.name, .string x.tab, .int .i64 x.col, .bool x.hash], .agg #[.string y.name, .string y.tab, .int .i64 y.col, .bool y.hash]] W fun e w' => e = .returned (.int .i64 (ixCmp x y)) ∧ ∃ q os', w' = grow (W.drewN q) os' := by
  have hcon := fun W' => cmp_any x.name y.name W'
  change ∀ W', Calls Try.prog _ _ _ (fun e w' => e = .returned (.int .i64 (ixCmp x y)) ∧ W' = w') at hcon
  generalize ixCmp x y = r at hcon ⊢
  go_enter Try.func55, Try.ntmps55
  go_wp2_with (go_at_call 56; refine (hcon _).mono ?_; rintro e w' ⟨rfl, rfl⟩)
  go_ret
  exact ⟨rfl, 0, _, by rw [alloc_eq_grow, alloc_eq_grow, grow_grow]; rfl⟩
theorem cmpLays_ix (blk off size : Nat) (w : World) : CmpLays Try.prog 55 #[] Ix.cells 4 ixCmp blk off size w := fun _ _ _ _ x y => cmadeF_any x y _
theorem flatK_list (l : List Ix) : (flatK Ix.cells 4 l.toArray).toList = ixCells l := by
  apply List.ext_getElem?
  intro i
  by_cases hi : i < l.length * 4
  · have h1 : (flatK Ix.cells 4 l.toArray).size = l.length * 4 := by simp
    have hq : i / 4 < l.length := by omega
    have hx : l[i / 4]? = some l[i / 4] := List.getElem?_eq_getElem hq
    have hc := chunk Ix.cells 4 l (fun x _ => x.len) (i / 4) _ hx
    have hr : (ixCells l)[i]? = (l[i / 4].cells)[i % 4]? := by
      rw [← hc, List.getElem?_take, if_pos (by omega), List.getElem?_drop]
      congr 1
      omega
    rw [hr, Array.getElem?_toList, Array.getElem?_eq_getElem (by omega), ← getElem!_pos _ i (by omega), get_flatK _ _ _ _ (by simpa using hi)]
    rw [getElem!_pos l.toArray (i / 4) (by simpa using hq)]
    have h4 : i % 4 < (l[i / 4].cells).length := by rw [Ix.len]; omega
    simp only [List.getElem_toArray]
    rw [getElem!_pos _ (i % 4) h4, List.getElem?_eq_getElem h4]
  · rw [List.getElem?_eq_none (by simp; omega), List.getElem?_eq_none (by rw [ixCells_len]; omega)]
theorem holdsK_range {W : World} {blk off : Nat} {l : List Ix} (h : HoldsK Ix.cells 4 W blk off l.toArray) : W.rangeAt blk off (ixCells l) := by
  intro j v hj
  rw [← flatK_list] at hj
  have hl : j < (flatK Ix.cells 4 l.toArray).size := by have := (List.getElem?_eq_some_iff.1 hj).1; simpa using this
  have := (h j hl).1
  rw [this]
  rw [Array.getElem?_toList, Array.getElem?_eq_getElem hl, ← getElem!_pos _ j hl] at hj
  simpa using hj
set_option maxHeartbeats 1000000 in
/-- slices.SortFunc over indexes, by their names -/
theorem sortIx_any (lo : Nat) (v : Value) (l : List Ix) (w : World) (h : Own 64 4 w lo v l.length (ixCells l)) (hn : l.length ≤ 1000000) (hnd : (l.map (·.name)).Nodup) :
    Calls Try.prog 54 #[v, .func (.func 55) #[] #[]] w fun e w' => e = .returned (.tuple #[]) ∧ RowAt w' (fun k => lo ≤ k) v l.length (ixCells (byName l)) ∧ Chg (fun k => v.ownBlock = some k) w w' := by
  obtain ⟨ao, cap, rfl, hao⟩ := h.form
  by_cases h0 : l.length = 0
  · have hl : l = [] := List.eq_nil_of_length_eq_zero h0
    subst hl
    have := AnyF.slices_SortFunc_none sortX ao cap (.func (.func 55) #[] #[]) w
    change Calls Try.prog 54 _ _ _ at this
    refine this.mono ?_
    rintro e w' ⟨rfl, rfl⟩
    have e0 : ixCells (byName []) = [] := by simp [byName, ixCells]
    rw [e0]
    exact ⟨rfl, RowAt.nil _ _ _ _, Chg.refl _ _⟩
  · obtain ⟨g, rfl, hg⟩ := hao (by omega)
    have eg : ∀ args w, (callFunc 55 args).run Try.prog w = .ok (.enter 55 args) w := enters_of Try.func55 (by kernel_rfl) rfl
    obtain ⟨cur, hcur⟩ := ownsRow_heap h.row (g := g) rfl
    have hH : HoldsK Ix.cells 4 w g 0 l.toArray := by
      intro j hj
      have hj' : (ixCells l)[j]? = some ((flatK Ix.cells 4 l.toArray)[j]!) := by
        rw [← flatK_list, Array.getElem?_toList, Array.getElem?_eq_getElem hj, getElem!_pos _ j hj]
      refine ⟨?_, frozen_of_row w g _ _ _ hcur⟩
      have := h.row.cells (g := g) rfl j _ hj'
      rw [Addr.add_mid] at this
      exact this
    have hcon := AnyQ.slices_SortFunc sortX 4 Try.isAgg64 Try.sizeOf64 Ix.cells (fun _ => rfl) (fun x v hv => by simp [Ix.cells] at hv; rcases hv with rfl | rfl | rfl | rfl <;> rfl) ixCmp swo_ix 55 #[] g 0 cap l.toArray w eg (cmpLays_ix g 0 l.toArray.size w) hH (lt_of_heap hcur) (by simp; omega)
    change Calls Try.prog 54 _ _ _ at hcon
    rw [show l.toArray.size = l.length by simp] at hcon
    refine hcon.mono ?_
    rintro e w' ⟨rfl, d', n, os, hp, hs, rfl⟩
    have hsz : d'.size = l.length := by have := hp.1; simpa using this
    have hH' := holdsK_sortWorldK Ix.cells 4 w g 0 n l.toArray d' os (lt_of_heap hcur) hH (by simpa using hsz)
    have hperm : d'.toList.Perm l := by
      have := hp.2.2
      rw [Array.toList_extract, Array.toList_extract] at this
      rw [← hsz] at this
      have hlen : l.length ≤ d'.size := by omega
      simpa [List.take_of_length_le, hlen] using this
    have hrise : d'.toList.Pairwise fun x y => nLe x.name y.name = true := by
      rw [List.pairwise_iff_getElem]
      intro i j hi hj hij
      have := hs i j (Nat.zero_le _) hij (by simpa [hsz] using hj)
      rw [ltOf_ix, getElem!_pos d' j (by simpa using hj), getElem!_pos d' i (by simpa using hi)] at this
      unfold nLe
      simpa using this
    have he : d'.toList = byName l := rises_eq (f := fun x : Ix => x.name) (hperm.trans (byName_perm l).symm) ((hperm.map _).nodup_iff.2 hnd) hrise (byName_rises l)
    refine ⟨rfl, ⟨_, cap, rfl, fun _ => ⟨g, 0, rfl, ?_, hg, ?_⟩⟩, ?_⟩
    · exact SWK.lt (w0 := w) (dk := d') ⟨n, os, rfl⟩ (lt_of_heap hcur)
    · rw [← he]
      have : d' = d'.toList.toArray := by simp
      rw [this] at hH'
      exact holdsK_range hH'
    · refine ⟨rfl, rfl, rfl, SWK.le (w0 := w) (dk := d') (enc := Ix.cells) (k := 4) (blk := g) (off := 0) ⟨n, os, rfl⟩, fun k hk hf => ?_⟩
      have hkg : k ≠ g := fun e => hf (by rw [e]; rfl)
      unfold sortWorldK
      rw [heap_grow_old _ _ (by rw [size_putRowK]; exact hk)]
      show (Array.modify _ _ _)[k]? = _
      rw [Array.getElem?_modify, if_neg (by omega)]
      rfl
end Go.Proofs.Ytpiijcjbphpffaa
