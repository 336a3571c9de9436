/-
  What Table and Tables do. No condition beyond each lemma's own.
-/
import Derived.Test.YtpiijcjbphpffaaCAddI
set_option autoImplicit false
namespace Go.Proofs.Ytpiijcjbphpffaa
open Go Go.RowKit Go.Maps Go.Sort Go.Shelf
attribute [local go_sem] field_tab0 field_tab1

theorem table_nil (k : ByteArray) (w : World) : Calls Try.prog 35 #[.pointer none, .string k] w fun e w' => e = .returned (.tuple #[.agg #[.string ⟨#[]⟩, .slice none 0 0], .bool false]) ∧ Chg (fun _ => False) w w' := by
  go_enter Try.func35, Try.ntmps35
  go_wp2
  refine bodyPost_ret (results_big2 Try.results35 _ _ w.heap.size [.string ⟨#[]⟩, .slice none 0 0] _ rfl (range_block hal_new) Try.underlying27 rfl (by kernel_rfl)) rfl ⟨rfl, (Chg.refl _ _).alloc _⟩
set_option maxRecDepth 100000 in
set_option maxHeartbeats 1000000 in
theorem table_any (r : Nat) (F : Nat → Prop) (C : Cat) (k : ByteArray) (w : World) (h : CatAt w r F C) :
    Calls Try.prog 35 #[.pointer (some ⟨r, 0, none⟩), .string k] w fun e w' => ∃ u, e = .returned (.tuple #[.agg #[.string (nameAt C.T k), u], .bool (tfind C.T k).isSome]) ∧ ColsAt w' (fun k => w.heap.size ≤ k) u (colsOf C.T k) ∧ Chg (fun _ => False) w w' := by
  obtain ⟨mt, mi, es, es', c, c', h⟩ := h
  obtain ⟨W1, hW1⟩ : ∃ W1, W1 = w.alloc (.cells #[.string ⟨#[]⟩, .slice none 0 0] 27) := ⟨_, rfl⟩
  have x1 : Chg (fun _ => False) w W1 := by subst hW1; exact (Chg.refl _ _).alloc _
  have h1 := h.quiet x1
  obtain ⟨c0, c1, c2⟩ := h.cells
  obtain ⟨lo, lc, hl1, hl2⟩ := h1.isT.val k
  have hlt := (hl2 _ _ _ h1.mapT).1
  rw [hW1] at hlt
  have HCols : Hid (ColsAt W1 F (.slice lo (colsOf C.T k).length lc) (colsOf C.T k)) := Lib.hid hl1
  have hcl := h.ok.cols k
  have B1 : Hid (W1.heap[w.heap.size]? = some (.cells #[.string ⟨#[]⟩, .slice none 0 0] 27 (0, 0))) := Lib.hid (by subst hW1; exact hal_new)
  have X1 := Lib.hid x1; have HW := Lib.hid hW1
  have Z1 : Hid (W1.heap.size = w.heap.size + 1) := Lib.hid (by subst hW1; simp)
  clear h hl1 hl2 x1 h1 hW1
  go_enter Try.func35, Try.ntmps35
  go_wp2_with fail
  rw [← HW.out]
  clear hlt
  refine (copied_any (nameAt C.T k) _ F (colsOf C.T k) _ (RowAt.quiet HCols.out ((Chg.refl _ _).alloc _)) (by omega)).mono ?_
  rintro e w3 ⟨_, rfl, ⟨a3, k3, rfl, p3⟩, x3⟩
  have x13 := (((Chg.refl (fun _ => False) W1).alloc (.cells #[.string (nameAt C.T k), .slice lo (colsOf C.T k).length lc] 27))).trans x3 (fun _ h => h.elim)
  have R3 : Hid (ColsAt w3 (fun k => W1.heap.size + 1 ≤ k) (.slice a3 (colsOf C.T k).length k3) (colsOf C.T k)) := Lib.hid (by
    have : ColsAt w3 _ (.slice a3 (colsOf C.T k).length k3) (colsOf C.T k) := ⟨a3, k3, rfl, p3⟩
    simpa using this)
  have b3 := x13.heap B1.out (fun h => h)
  have B3 := Lib.hid b3; have X3 := Lib.hid (X1.out.trans x13 (fun _ h => h.elim))
  have m0 := cell_of_row w3 w.heap.size 0 _ _ _ b3
  have m1 := cell_of_row w3 w.heap.size 1 _ _ _ b3
  have f0 := frozen_of_row w3 w.heap.size 0 _ _ b3
  have f1 := frozen_of_row w3 w.heap.size 1 _ _ b3
  clear b3 x13 x3 p3
  go_wp2
  have b5 : ((w3.setCell ⟨w.heap.size, 0, none⟩ (.string (nameAt C.T k))).setCell ⟨w.heap.size, 1, none⟩ (.slice a3 (colsOf C.T k).length k3)).heap[w.heap.size]? = some (.cells #[.string (nameAt C.T k), .slice a3 (colsOf C.T k).length k3] 27 (0, 0)) := by
    rw [hset_eq (hset_eq B3.out)]; rfl
  have y5 : Chg (fun k => k = w.heap.size) w3 ((w3.setCell ⟨w.heap.size, 0, none⟩ (.string (nameAt C.T k))).setCell ⟨w.heap.size, 1, none⟩ (.slice a3 (colsOf C.T k).length k3)) :=
    ((Chg.refl (fun k => k = w.heap.size) w3).setCell (p := ⟨w.heap.size, 0, none⟩) (.inl rfl) _).setCell (p := ⟨w.heap.size, 1, none⟩) (.inl rfl) _
  have x5 := ((X3.out.mono (G := fun k => w.heap.size ≤ k) (fun _ h => h.elim)).trans y5 (fun k h => .inl (by omega))).mono (G := fun _ => False) (fun k hk => .inr hk)
  have r5 := (R3.out.chg y5 (fun k hk hk2 => by have := Z1.out; omega)).mono (G := fun k => w.heap.size ≤ k) (fun k hk _ => by have := Z1.out; omega)
  refine bodyPost_ret (results_big2 Try.results35 _ _ w.heap.size [.string (nameAt C.T k), .slice a3 (colsOf C.T k).length k3] _ rfl (range_block b5) Try.underlying27 rfl (by kernel_rfl)) rfl ⟨_, rfl, r5, x5⟩

/-! all tables, by name -/
theorem sortsS (m : Nat) : AnyZ.SortsIn Try.prog sortedS_ren Fence.wide m :=
  ⟨fun blk off cap ss W hH hblk hsz => callsIn_wide.2 (AnyM.slices_Sort_string sortS blk off cap ss W hH hblk hsz),
   fun p cap W => callsIn_wide.2 (AnyM.slices_Sort_string_none sortS p cap W)⟩
def anyR (_ : Value) : Option (DataW Unit × List MemPlace) := some (.nil, [])
theorem insert_perm {H : Type} (x : Lit × DataW H) : ∀ l : List (Lit × DataW H), (DataW.insert x l).Perm (x :: l)
  | [] => List.Perm.refl _
  | y :: r => by
    unfold DataW.insert
    split
    · exact List.Perm.refl _
    · exact ((insert_perm x r).cons y).trans (List.Perm.swap x y r)
theorem foldr_insert_perm {H : Type} : ∀ l : List (Lit × DataW H), (l.foldr DataW.insert []).Perm l
  | [] => List.Perm.refl _
  | x :: l => by
    rw [List.foldr_cons]
    exact (insert_perm x _).trans ((foldr_insert_perm l).cons x)
theorem rd_any {x : MapEntry} {s : ByteArray} (h : x.key = .string s) (hs : s.size ≤ maxLen) : Go.WideElems.rd Try.prog 9 anyR x = some (.string s.data.toList, .nil) := by
  have hk : keyOf Try.prog 9 x.key = some (.string s.data.toList) := by
    rw [h]
    simp [keyOf, Try.underlying9, mapKey, hs]
  unfold Go.WideElems.rd
  rw [hk]
  rfl
def byNameT (l : List Tab) : List Tab := l.mergeSort fun x y => nLe x.name y.name
theorem byNameT_perm (l : List Tab) : (byNameT l).Perm l := List.mergeSort_perm _ _
theorem byNameT_rises (l : List Tab) : (byNameT l).Pairwise fun x y => nLe x.name y.name = true :=
  List.pairwise_mergeSort (le := fun x y : Tab => nLe x.name y.name) (fun _ _ _ h k => nLe_trans h k) (fun x y => nLe_total x.name y.name) l
def Cat.tables (C : Cat) : List Tab := byNameT C.T
def tNames (l : List Tab) : List (List UInt8) := l.map fun t => t.name.data.toList
theorem nLe_leB (a b : ByteArray) : nLe a b = decide (a.data.toList ≤ b.data.toList) := by
  unfold nLe nLt
  rw [Bool.eq_iff_iff]
  simp
theorem tNames_sorted (l : List Tab) : (tNames l).mergeSort (fun x y => decide (x ≤ y)) = tNames (byNameT l) := by
  have h1 : (tNames (byNameT l)).Perm (tNames l) := (byNameT_perm l).map _
  rw [← mergeSort_of_perm h1]
  refine List.mergeSort_of_pairwise ?_
  unfold tNames
  rw [List.pairwise_map]
  exact (byNameT_rises l).imp (fun h => by rw [nLe_leB] at h; exact h)
theorem below_chg {w w' : World} (h : Below w.heap.size w w') : Chg (fun _ => False) w w' := ⟨h.os, h.tape, h.output, h.size, fun k hk _ => h.block k hk⟩
set_option maxRecDepth 100000 in
theorem tab_owns {C : Cat} (ok : C.ok) {F : Nat → Prop} {es : Array MapEntry} {c b : Nat} {w W : World} (is : TabEnt w F es c C.T) (hb : W.heap[b]? = some (.map es c)) :
    ∃ D0 : DataW Unit, W.ownsMap Try.prog 9 anyR b es.size D0 ∧ (strKeys D0).Perm (tNames C.T) ∧ Maps.size D0 ≤ 16 := by
  have hkey : ∀ x ∈ es.toList, ∃ t ∈ C.T, x.key = .string t.name := fun x hx => by
    have : x.key ∈ C.T.map (fun t => Value.string t.name) := is.perm.mem_iff.1 (List.mem_map.2 ⟨x, hx, rfl⟩)
    obtain ⟨t, ht, h⟩ := List.mem_map.1 this
    exact ⟨t, ht, h.symm⟩
  have hrd : ∀ x ∈ es.toList, ∃ t ∈ C.T, x.key = .string t.name ∧ Go.WideElems.rd Try.prog 9 anyR x = some (.string t.name.data.toList, .nil) := fun x hx => by
    obtain ⟨t, ht, hk⟩ := hkey x hx
    refine ⟨t, ht, hk, rd_any hk ?_⟩
    have := (nameB_size (mayB_len (ok.tm t ht)).2.2.1).2
    unfold maxLen; omega
  have hsz : es.size ≤ 16 := by rw [is.size]; exact ok.t16
  refine ⟨_, ⟨es, c, hb, ⟨by unfold maxLen; omega, is.stamped, fun x hx => by obtain ⟨t, _, _, h⟩ := hrd x hx; exact ⟨_, h⟩⟩, Nat.le_refl _, rfl⟩, ?_, ?_⟩
  · show ((es.toList.map (Go.WideElems.rg Try.prog 9 anyR)).foldr DataW.insert []).map (fun p => Go.strOf p.1) |>.Perm (tNames C.T)
    refine ((foldr_insert_perm _).map _).trans ?_
    rw [List.map_map]
    have h2 := is.perm.map (fun v => (strOf v).data.toList)
    rw [List.map_map, List.map_map] at h2
    refine List.Perm.trans (List.Perm.of_eq (List.map_congr_left (fun x hx => ?_))) (h2.trans (List.Perm.of_eq (List.map_congr_left (fun t ht => rfl))))
    obtain ⟨t, ht, hk, h⟩ := hrd x hx
    show Go.strOf (Go.WideElems.rg Try.prog 9 anyR x).1 = (strOf x.key).data.toList
    unfold Go.WideElems.rg
    rw [h, hk]
    rfl
  · show ((es.toList.map (Go.WideElems.rg Try.prog 9 anyR)).foldr DataW.insert []).length ≤ _
    rw [(foldr_insert_perm _).length_eq]
    simpa using hsz
theorem keys_calls (mb : Option Nat) (W : World) : Calls Try.prog 31 #[.map mb] W fun e w' => e = .returned (.func (.func 53) #[] #[.pointer (some ⟨W.heap.size, 0, none⟩)]) ∧ W.alloc (.cells #[.map mb] 65) = w' :=
  (callsIn_wide.1 (AnyZ.keys_in keysS Fence.wide 5 trivial rfl mb W)).mono fun _ _ ⟨h1, h2⟩ => ⟨h1, h2.symm⟩
def strCells (l : List (List UInt8)) : List Value := l.map fun s => .string ⟨s.toArray⟩
set_option maxRecDepth 100000 in
theorem sorted_calls {C : Cat} (ok : C.ok) {F : Nat → Prop} {es : Array MapEntry} {c b : Nat} (w v : World) (is : TabEnt v F es c C.T) (hb : w.heap[b]? = some (.map es c)) :
    Calls Try.prog 30 #[.func (.func 53) #[] #[.pointer (some ⟨w.heap.size, 0, none⟩)]] (w.alloc (.cells #[.map (some b)] 65)) fun e w' => ∃ v, e = .returned v ∧ Own 9 1 w' (w.heap.size + 1) v C.tables.length (strCells (tNames C.tables)) ∧ Chg (fun _ => False) (w.alloc (.cells #[.map (some b)] 65)) w' := by
  obtain ⟨D0, hown, hperm, hsz⟩ := tab_owns ok is hb
  have hbl := lt_of_heap hb
  have hmax : Maps.size D0 ≤ maxLen := by unfold maxLen; omega
  have hseq : SeqGives Fence.wide 2 Try.prog 53 #[.pointer (some ⟨w.heap.size, 0, none⟩)] encStr (fun ss => ss.Perm (strKeys D0)) (Maps.size D0) (w.alloc (.cells #[.map (some b)] 65)) :=
    AnyZ.keys_gives (ρ := keysS_ren) { keysS with } Fence.wide _ trivial rfl (by omega) w.heap.size b es.size D0 _ (by simp) (by simp) (by
      obtain ⟨es, clock, hb, Ft, hs, hD⟩ := hown
      exact ⟨es, clock, (Below.heap_alloc _ _ b hbl).trans hb, Ft, hs, hD⟩)
  have cS := AnyZ.sorted_in sortedS Fence.wide 5 trivial trivial trivial trivial rfl (by omega) (sortsS _) (enters_of Try.func52 (by kernel_rfl) rfl) 53 #[.pointer (some ⟨w.heap.size, 0, none⟩)] trivial (enters_of Try.func53 (by kernel_rfl) rfl) _ _ hmax (by omega) _ hseq
  change CallsIn _ _ Try.prog 30 _ _ _ at cS
  refine (callsIn_wide.1 cS).mono ?_
  rintro e w' ⟨v, ss, rfl, hS, hrow, _, hbw⟩
  have hss : ss.mergeSort (fun x y => decide (x ≤ y)) = tNames C.tables := (mergeSort_of_perm (hS.trans hperm)).trans (tNames_sorted C.T)
  have hl : ss.length = C.tables.length := by
    have := congrArg List.length hss
    rw [(List.mergeSort_perm _ _).length_eq] at this
    rw [this]
    unfold tNames
    simp
  rw [hss, hl] at hrow
  have e1 : (w.alloc (.cells #[.map (some b)] 65)).heap.size = w.heap.size + 1 := by simp
  rw [e1] at hrow
  refine ⟨v, rfl, ⟨⟨hrow.1, ?_⟩, fun g hg => (hrow.lt g hg).1⟩, below_chg hbw⟩
  rcases hrow.2 with h | ⟨g, cap, cur, h1, _, h3⟩
  · exact .inl h
  · exact .inr ⟨g, cap, cur, h1, Nat.zero_le _, h3⟩
end Go.Proofs.Ytpiijcjbphpffaa
