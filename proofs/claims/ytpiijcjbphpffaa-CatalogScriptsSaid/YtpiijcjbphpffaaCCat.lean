/-
  The catalog in memory: a map of tables, a map of indexes; New and AddTable. No condition beyond each lemma's own.
-/
import Derived.Test.YtpiijcjbphpffaaCMay
set_option autoImplicit false
namespace Go.Proofs.Ytpiijcjbphpffaa
open Go Go.RowKit

theorem beq_self (a : ByteArray) : (a == a) = true := (bytesBeq a a).2 rfl
theorem beq_eq {a b : ByteArray} (h : (a == b) = true) : a = b := (bytesBeq a b).1 h
theorem beq_ne {a b : ByteArray} (h : a ≠ b) : (a == b) = false := by
  cases hh : a == b with
  | false => rfl
  | true => exact absurd (beq_eq hh) h
structure Cat where
  T : List Tab
  I : List Ix
def tfind (T : List Tab) (k : ByteArray) : Option Tab := T.find? fun t => t.name == k
def ifind (I : List Ix) (k : ByteArray) : Option Ix := I.find? fun x => x.name == k
def colsOf (T : List Tab) (k : ByteArray) : List Col := match tfind T k with
  | some t => t.cols
  | none => []
theorem tfind_name {T : List Tab} {k : ByteArray} {t : Tab} (h : tfind T k = some t) : t.name = k := beq_eq (List.find?_some (p := fun t : Tab => t.name == k) h)
theorem tfind_mem {T : List Tab} {k : ByteArray} {t : Tab} (h : tfind T k = some t) : t ∈ T := List.mem_of_find?_eq_some h
theorem tfind_none {T : List Tab} {k : ByteArray} (h : tfind T k = none) : ∀ t ∈ T, t.name ≠ k := by
  intro t ht e
  have := List.find?_eq_none.1 h t ht
  rw [e] at this
  exact this (beq_self k)
theorem tfind_app (T : List Tab) (t : Tab) (k : ByteArray) : tfind (T ++ [t]) k = (tfind T k).or (if t.name == k then some t else none) := by
  unfold tfind
  rw [List.find?_append]
  cases h : t.name == k <;> simp [h]
theorem ifind_app (T : List Ix) (t : Ix) (k : ByteArray) : ifind (T ++ [t]) k = (ifind T k).or (if t.name == k then some t else none) := by
  unfold ifind
  rw [List.find?_append]
  cases h : t.name == k <;> simp [h]
structure Cat.ok (C : Cat) : Prop where
  tn : (C.T.map (·.name)).Nodup
  tm : ∀ t ∈ C.T, mayB t.name t.cols = true
  t16 : C.T.length ≤ 16
  im : ∀ x ∈ C.I, nameB x.name = true ∧ ∃ t, tfind C.T x.tab = some t ∧ 0 ≤ x.col ∧ x.col < t.cols.length
  inn : (C.I.map (·.name)).Nodup
  i16 : ∀ n, (C.I.filter fun x => x.tab == n).length ≤ 16
theorem mayB_len {n : ByteArray} {cs : List Col} (h : mayB n cs = true) : 0 < cs.length ∧ cs.length ≤ 16 ∧ nameB n = true ∧ colsOk cs cs.length = true := by
  unfold mayB at h
  simp only [Bool.and_eq_true, decide_eq_true_eq] at h
  exact ⟨h.1.2, h.2, h.1.1.2, h.1.1.1⟩
theorem Cat.ok.cols {C : Cat} (h : C.ok) (k : ByteArray) : (colsOf C.T k).length ≤ 16 := by
  unfold colsOf
  cases hf : tfind C.T k with
  | none => simp
  | some t => exact (mayB_len (h.tm t (tfind_mem hf))).2.1

/-! the two maps -/
structure TabEnt (w : World) (F : Nat → Prop) (es : Array MapEntry) (c : Nat) (T : List Tab) : Prop where
  keys : KeysTy .string es.toList
  stamped : MapKept.Stamped es c
  perm : (es.toList.map (·.key)).Perm (T.map fun t => .string t.name)
  look : ∀ k, (tfind T k = none → mfind es.toList (.string k) = none) ∧ ∀ t, tfind T k = some t → ∃ v, mfind es.toList (.string k) = some (.agg #[.string k, v]) ∧ ColsAt w F v t.cols
structure IxEnt (es : Array MapEntry) (c : Nat) (I : List Ix) : Prop where
  keys : KeysTy .string es.toList
  stamped : MapKept.Stamped es c
  perm : (es.toList.map fun e => (e.key, e.val)).Perm (I.map fun x => (Value.string x.name, x.val))
  look : ∀ k, mfind es.toList (.string k) = (ifind I k).map Ix.val
theorem TabEnt.size {w : World} {F : Nat → Prop} {es : Array MapEntry} {c : Nat} {T : List Tab} (h : TabEnt w F es c T) : es.size = T.length := by
  have := h.perm.length_eq
  simpa using this
structure CatIn (w : World) (r : Nat) (F : Nat → Prop) (C : Cat) (mt mi : Nat) (es es' : Array MapEntry) (c c' : Nat) : Prop where
  self : w.heap[r]? = some (.cells #[.map (some mt), .map (some mi)] 68 (0, 0))
  mapT : w.heap[mt]? = some (.map es c)
  mapI : w.heap[mi]? = some (.map es' c')
  isT : TabEnt w F es c C.T
  isI : IxEnt es' c' C.I
  fr : F r
  ft : F mt
  fi : F mi
  ne : mt ≠ mi
  ok : C.ok
def CatAt (w : World) (r : Nat) (F : Nat → Prop) (C : Cat) : Prop := ∃ mt mi es es' c c', CatIn w r F C mt mi es es' c c'
theorem TabEnt.chg {w w' : World} {F G : Nat → Prop} {es : Array MapEntry} {c : Nat} {T : List Tab} (h : TabEnt w F es c T) (x : Chg G w w') (hd : ∀ k, F k → ¬ G k) : TabEnt w' F es c T :=
  ⟨h.keys, h.stamped, h.perm, fun k => ⟨(h.look k).1, fun t ht => by obtain ⟨v, h1, h2⟩ := (h.look k).2 t ht; exact ⟨v, h1, RowAt.chg h2 x hd⟩⟩⟩
theorem TabEnt.mono {w : World} {F G : Nat → Prop} {es : Array MapEntry} {c : Nat} {T : List Tab} (h : TabEnt w F es c T) (hG : ∀ k, F k → k < w.heap.size → G k) : TabEnt w G es c T :=
  ⟨h.keys, h.stamped, h.perm, fun k => ⟨(h.look k).1, fun t ht => by obtain ⟨v, h1, h2⟩ := (h.look k).2 t ht; exact ⟨v, h1, RowAt.mono h2 hG⟩⟩⟩
section
variable {w w' : World} {r : Nat} {F G : Nat → Prop} {C : Cat} {mt mi : Nat} {es es' : Array MapEntry} {c c' : Nat}
theorem CatIn.chg (h : CatIn w r F C mt mi es es' c c') (x : Chg G w w') (hd : ∀ k, F k → ¬ G k) : CatIn w' r F C mt mi es es' c c' :=
  ⟨x.heap h.self (hd _ h.fr), x.heap h.mapT (hd _ h.ft), x.heap h.mapI (hd _ h.fi), h.isT.chg x hd, h.isI, h.fr, h.ft, h.fi, h.ne, h.ok⟩
theorem CatIn.quiet (h : CatIn w r F C mt mi es es' c c') (x : Chg (fun _ => False) w w') : CatIn w' r F C mt mi es es' c c' := h.chg x (fun _ _ h => h)
theorem CatIn.mono (h : CatIn w r F C mt mi es es' c c') (hG : ∀ k, F k → k < w.heap.size → G k) : CatIn w r G C mt mi es es' c c' :=
  ⟨h.self, h.mapT, h.mapI, h.isT.mono hG, h.isI, hG _ h.fr (lt_of_heap h.self), hG _ h.ft (lt_of_heap h.mapT), hG _ h.fi (lt_of_heap h.mapI), h.ne, h.ok⟩
theorem CatAt.chg (h : CatAt w r F C) (x : Chg G w w') (hd : ∀ k, F k → ¬ G k) : CatAt w' r F C := by
  obtain ⟨mt, mi, es, es', c, c', h⟩ := h
  exact ⟨mt, mi, es, es', c, c', h.chg x hd⟩
theorem CatAt.quiet (h : CatAt w r F C) (x : Chg (fun _ => False) w w') : CatAt w' r F C := h.chg x (fun _ _ h => h)
theorem CatAt.mono (h : CatAt w r F C) (hG : ∀ k, F k → k < w.heap.size → G k) : CatAt w r G C := by
  obtain ⟨mt, mi, es, es', c, c', h⟩ := h
  exact ⟨mt, mi, es, es', c, c', h.mono hG⟩
theorem CatAt.ok (h : CatAt w r F C) : C.ok := by
  obtain ⟨mt, mi, es, es', c, c', h⟩ := h
  exact h.ok
theorem CatIn.cells (h : CatIn w r F C mt mi es es' c c') : w.cell? ⟨r, 0, none⟩ = some (.map (some mt)) ∧ w.cell? ⟨r, 1, none⟩ = some (.map (some mi)) ∧ r < w.heap.size :=
  ⟨cell_of_row w r 0 _ _ _ h.self, cell_of_row w r 1 _ _ _ h.self, lt_of_heap h.self⟩
theorem CatIn.nrt (h : CatIn w r F C mt mi es es' c c') : mt ≠ r := by
  intro e
  subst e
  have := h.self
  rw [h.mapT] at this
  simp at this
theorem CatIn.nri (h : CatIn w r F C mt mi es es' c c') : mi ≠ r := by
  intro e
  subst e
  have := h.self
  rw [h.mapI] at this
  simp at this
end
theorem zero_tab (w : World) : (zeroValue 27).run Try.prog w = .ok (.agg #[.string ⟨#[]⟩, .slice none 0 0]) w := by kernel_rfl
theorem zero_ix (w : World) : (zeroValue 64).run Try.prog w = .ok (.agg #[.string ⟨#[]⟩, .string ⟨#[]⟩, .int .i64 0, .bool false]) w := by kernel_rfl
def nameAt (T : List Tab) (k : ByteArray) : ByteArray := if (tfind T k).isSome then k else ⟨#[]⟩
/-- a table, looked up -/
theorem TabEnt.val {w : World} {F : Nat → Prop} {es : Array MapEntry} {c : Nat} {T : List Tab} (h : TabEnt w F es c T) (k : ByteArray) :
    ∃ ao cap, ColsAt w F (.slice ao (colsOf T k).length cap) (colsOf T k) ∧ ∀ (W : World) (b c' : Nat), W.heap[b]? = some (.map es c') →
      (Instr.lookup 65 (.map (some b)) (.string k) true).run Try.prog W = .ok (.tuple #[.agg #[.string (nameAt T k), .slice ao (colsOf T k).length cap], .bool (tfind T k).isSome]) W ∧
      (Instr.lookup 65 (.map (some b)) (.string k) false).run Try.prog W = .ok (.agg #[.string (nameAt T k), .slice ao (colsOf T k).length cap]) W := by
  unfold nameAt colsOf
  cases hf : tfind T k with
  | none =>
    refine ⟨none, 0, RowAt.nil _ _ _ _, fun W b c' hb => ?_⟩
    have := (h.look k).1 hf
    constructor
    · rw [run_lookup W Try.underlying65 Try.underlying9 (by trivial) hb h.keys zero_tab true, this]; rfl
    · rw [run_lookup W Try.underlying65 Try.underlying9 (by trivial) hb h.keys zero_tab false, this]; rfl
  | some t =>
    obtain ⟨v, h1, ao, cap, rfl, h2⟩ := (h.look k).2 t hf
    refine ⟨ao, cap, ⟨ao, cap, rfl, h2⟩, fun W b c' hb => ?_⟩
    constructor
    · rw [run_lookup W Try.underlying65 Try.underlying9 (by trivial) hb h.keys zero_tab true, h1]; rfl
    · rw [run_lookup W Try.underlying65 Try.underlying9 (by trivial) hb h.keys zero_tab false, h1]; rfl
def ixAt (I : List Ix) (k : ByteArray) : Ix := (ifind I k).getD ⟨⟨#[]⟩, ⟨#[]⟩, 0, false⟩
theorem IxEnt.at_ok {es : Array MapEntry} {c : Nat} {I : List Ix} (h : IxEnt es c I) (k : ByteArray) {W : World} {b c' : Nat} (hb : W.heap[b]? = some (.map es c')) :
    (Instr.lookup 66 (.map (some b)) (.string k) true).run Try.prog W = .ok (.tuple #[.agg #[.string (ixAt I k).name, .string (ixAt I k).tab, .int .i64 (ixAt I k).col, .bool (ixAt I k).hash], .bool (ifind I k).isSome]) W := by
  rw [run_lookup W Try.underlying66 Try.underlying9 (by trivial) hb h.keys zero_ix true, h.look]
  unfold ixAt
  cases ifind I k <;> rfl
theorem stamped_mput {d : TypeDesc} {es : Array MapEntry} {c : Nat} {k v : Value} (hk : KeyTy d k) (h : MapKept.Stamped es c) : MapKept.Stamped (mput es c k v) (mclock es c k) := by
  unfold mput mclock
  cases hf : es.toList.findIdx? (fun e => kmatch k e.key) with
  | none =>
    simp only
    refine MapKept.stamped_push h (fun x hx e => ?_)
    have := List.findIdx?_eq_none_iff.1 hf x hx
    rw [e, kmatch_self hk] at this
    cases this
  | some i =>
    simp only
    refine MapKept.stamped_modify h i _ (fun _ _ => rfl) (fun e _ he => ?_)
    obtain ⟨hlt, hm, _⟩ := List.findIdx?_eq_some_iff_getElem.1 hf
    have hj : es[i]? = some es.toList[i] := by simp
    rw [hj] at he
    obtain rfl := Option.some.inj he
    exact kmatch_eq hm
theorem mput_new {es : Array MapEntry} {c : Nat} {k v : Value} (h : mfind es.toList k = none) : mput es c k v = es.push { key := k, val := v, born := c } := by
  unfold mput
  rw [mfind_none.1 h]
/-- a table that is new -/
theorem TabEnt.put {w : World} {F : Nat → Prop} {es : Array MapEntry} {c : Nat} {T : List Tab} (h : TabEnt w F es c T) (t : Tab) (v : Value) (hv : ColsAt w F v t.cols) (hn : tfind T t.name = none) :
    TabEnt w F (mput es c (.string t.name) (.agg #[.string t.name, v])) (mclock es c (.string t.name)) (T ++ [t]) := by
  have hl := (h.look t.name).1 hn
  refine ⟨mput_keys (by trivial) h.keys, stamped_mput (d := .string) (by trivial) h.stamped, ?_, fun k => ?_⟩
  · rw [mput_new hl, Array.toList_push, List.map_append, List.map_append]
    exact h.perm.append_right _
  · rw [mfind_mput (d := .string) (by trivial), kmatch_str, tfind_app]
    by_cases hk : k = t.name
    · subst hk
      rw [hn, beq_self]
      refine ⟨fun h => by simp at h, fun s hs => ?_⟩
      simp only [Option.none_or, if_true, Option.some.injEq] at hs
      subst hs
      exact ⟨v, by simp, hv⟩
    · rw [beq_ne hk, beq_ne (fun e => hk e.symm)]
      simp only [Bool.false_eq_true, if_false, Option.or_none]
      exact h.look k
theorem IxEnt.put {es : Array MapEntry} {c : Nat} {I : List Ix} (h : IxEnt es c I) (x : Ix) (hn : ifind I x.name = none) :
    IxEnt (mput es c (.string x.name) x.val) (mclock es c (.string x.name)) (I ++ [x]) := by
  have hl : mfind es.toList (.string x.name) = none := by rw [h.look, hn]; rfl
  refine ⟨mput_keys (by trivial) h.keys, stamped_mput (d := .string) (by trivial) h.stamped, ?_, fun k => ?_⟩
  · rw [mput_new hl, Array.toList_push, List.map_append, List.map_append]
    exact h.perm.append_right _
  · rw [mfind_mput (d := .string) (by trivial), kmatch_str, ifind_app]
    by_cases hk : k = x.name
    · subst hk
      rw [hn, beq_self]
      simp
    · rw [beq_ne hk, beq_ne (fun e => hk e.symm)]
      simp only [Bool.false_eq_true, if_false, Option.or_none]
      exact h.look k
/-- a row of cells does not lie where a map lies -/
theorem RowAt.setObj {w : World} {F : Nat → Prop} {v : Value} {n : Nat} {cells : List Value} {m c : Nat} {es : Array MapEntry} (h : RowAt w F v n cells) (hc : 0 < n → cells ≠ []) (hm : w.heap[m]? = some (.map es c)) (o : Obj) : RowAt (setObj w m o) F v n cells := by
  obtain ⟨ao, cap, rfl, h⟩ := h
  refine ⟨ao, cap, rfl, fun hn => ?_⟩
  obtain ⟨b, of, rfl, hb, hf, hr⟩ := h hn
  have hne : b ≠ m := by
    intro e
    subst e
    cases cells with
    | nil => exact hc hn rfl
    | cons a l =>
      have := hr 0 a rfl
      simp [World.cell?, hm] at this
  exact ⟨b, of, rfl, by simpa using hb, hf, range_of_heap (hobj_ne hne) hr⟩
theorem TabEnt.setObj {w : World} {F : Nat → Prop} {es es' : Array MapEntry} {c m c' : Nat} {T : List Tab} (h : TabEnt w F es c T) (hm : w.heap[m]? = some (.map es' c')) (o : Obj) : TabEnt (setObj w m o) F es c T :=
  ⟨h.keys, h.stamped, h.perm, fun k => ⟨(h.look k).1, fun t ht => by
    obtain ⟨v, h1, h2⟩ := (h.look k).2 t ht
    exact ⟨v, h1, RowAt.setObj h2 (fun hp he => by have := colCells_len t.cols; rw [he] at this; simp at this; omega) hm o⟩⟩⟩

/-! New -/
theorem new3 (w : World) (a b c : Obj) : (((w.alloc a).alloc b).alloc c).heap[w.heap.size]? = some a ∧ (((w.alloc a).alloc b).alloc c).heap[w.heap.size + 1]? = some b ∧ (((w.alloc a).alloc b).alloc c).heap[w.heap.size + 2]? = some c := by
  have z1 : (w.alloc a).heap.size = w.heap.size + 1 := by simp
  have z2 : ((w.alloc a).alloc b).heap.size = w.heap.size + 2 := by simp
  refine ⟨?_, ?_, hal_new' z2.symm⟩
  · rw [hal_old (by omega), hal_old (by omega), hal_new]
  · rw [hal_old (by omega)]; exact hal_new' z1.symm
def Cat.empty : Cat := ⟨[], []⟩
theorem Cat.empty_ok : Cat.empty.ok := ⟨by simp [Cat.empty], by simp [Cat.empty], by simp [Cat.empty], by simp [Cat.empty], by simp [Cat.empty], by simp [Cat.empty]⟩
theorem tabEnt_empty (w : World) (F : Nat → Prop) : TabEnt w F #[] 0 [] := ⟨fun e he => by simp at he, MapKept.stamped_empty 0, by simp, fun k => ⟨fun _ => by simp [mfind], fun t ht => by simp [tfind] at ht⟩⟩
theorem ixEnt_empty : IxEnt #[] 0 [] := ⟨fun e he => by simp at he, MapKept.stamped_empty 0, by simp, fun k => by simp [mfind, ifind]⟩
theorem cnew_any (w : World) : Calls Try.prog 9 #[] w fun e w' => ∃ r, e = .returned (.pointer (some ⟨r, 0, none⟩)) ∧ CatAt w' r (Ext (fun _ => False) w w') Cat.empty ∧ Chg (fun _ => False) w w' := by
  have hmm := @run_makeMap Try.prog
  go_enter Try.func9, Try.ntmps9
  go_wp2
  go_ret
  refine ⟨_, rfl, ⟨w.heap.size, w.heap.size + 1, #[], #[], 0, 0, ?_, ?_, ?_, tabEnt_empty _ _, ixEnt_empty, ?_, ?_, ?_, by omega, Cat.empty_ok⟩, (((Chg.refl _ _).alloc _).alloc _).alloc _⟩
  · exact (new3 w _ _ _).2.2
  · exact (new3 w _ _ _).1
  · exact (new3 w _ _ _).2.1
  all_goals exact .inr ⟨by first | omega | (simp; done) | (simp; omega), by first | omega | (simp; done) | (simp; omega)⟩
end Go.Proofs.Ytpiijcjbphpffaa
