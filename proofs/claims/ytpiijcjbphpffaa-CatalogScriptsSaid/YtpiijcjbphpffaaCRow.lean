/-
  Rows of cells that slices head: those that somebody owns, and those that a call has made; columns, indexes, tables, values. No condition beyond each lemma's own.
-/
import Derived.Test.YtpiijcjbphpffaaCName
set_option autoImplicit false
namespace Go.Proofs.Ytpiijcjbphpffaa
open Go Go.RowKit

/-! a row that is read: it lies in a block of F -/
def RowAt (w : World) (F : Nat → Prop) (v : Value) (n : Nat) (cells : List Value) : Prop :=
  ∃ ao cap, v = .slice ao n cap ∧ (0 < n → ∃ b o, ao = some ⟨b, o, none⟩ ∧ b < w.heap.size ∧ F b ∧ w.rangeAt b o cells)
section
variable {w w' : World} {F G : Nat → Prop} {v : Value} {n : Nat} {cells : List Value}
theorem RowAt.chg (h : RowAt w F v n cells) (c : Chg G w w') (hd : ∀ k, F k → ¬ G k) : RowAt w' F v n cells := by
  obtain ⟨ao, cap, rfl, h⟩ := h
  refine ⟨ao, cap, rfl, fun hn => ?_⟩
  obtain ⟨b, o, rfl, hb, hf, hr⟩ := h hn
  exact ⟨b, o, rfl, Nat.lt_of_lt_of_le hb c.size, hf, range_of_heap (c.keep b hb (hd b hf)) hr⟩
theorem RowAt.quiet (h : RowAt w F v n cells) (c : Chg (fun _ => False) w w') : RowAt w' F v n cells := h.chg c (fun _ _ h => h)
theorem RowAt.mono (h : RowAt w F v n cells) (hG : ∀ k, F k → k < w.heap.size → G k) : RowAt w G v n cells := by
  obtain ⟨ao, cap, rfl, h⟩ := h
  refine ⟨ao, cap, rfl, fun hn => ?_⟩
  obtain ⟨b, o, rfl, hb, hf, hr⟩ := h hn
  exact ⟨b, o, rfl, hb, hG b hf hb, hr⟩
theorem RowAt.nil (w : World) (F : Nat → Prop) (ao : Option Addr) (cap : Nat) : RowAt w F (.slice ao 0 cap) 0 [] := ⟨ao, cap, rfl, fun h => absurd h (Nat.lt_irrefl 0)⟩
end
theorem range_add {w : World} {b o i : Nat} {a c : List Value} (h : w.rangeAt b o (a ++ c)) (hi : a.length = i) : w.rangeAt b (o + i) c := by
  subst hi
  intro j v hj
  have := h (a.length + j) v (by rw [List.getElem?_append_right (by omega)]; simpa using hj)
  rw [Nat.add_assoc]; exact this
theorem range_left {w : World} {b o : Nat} {a c : List Value} (h : w.rangeAt b o (a ++ c)) : w.rangeAt b o a := by
  intro j v hj
  have hl : j < a.length := (List.getElem?_eq_some_iff.1 hj).1
  exact h j v (by rw [List.getElem?_append_left hl]; exact hj)
/-- the cells of element number i -/
theorem range_elem {α : Type} {w : World} {b o s : Nat} {l : List α} {f : α → List Value} (h : w.rangeAt b o (l.flatMap f)) (hs : ∀ x, (f x).length = s) {i : Nat} {x : α} (hx : l[i]? = some x) : w.rangeAt b (o + i * s) (f x) := by
  have hc := chunk f s l (fun z _ => hs z) i x hx
  intro j v hj
  have hl : j < s := by have := (List.getElem?_eq_some_iff.1 hj).1; rw [hs] at this; exact this
  refine (Nat.add_assoc _ _ _ ▸ h (i * s + j) v ?_)
  rw [← hc, List.getElem?_take, if_pos hl, List.getElem?_drop] at hj
  exact hj

/-! a row that a call has made for itself -/
structure Own (T s : Nat) (w : World) (lo : Nat) (v : Value) (n : Nat) (cells : List Value) : Prop where
  row : w.ownsRow 0 T s v n cells
  lo : ∀ g, v.ownBlock = some g → lo ≤ g
theorem Own.nil (T s : Nat) (w : World) (lo : Nat) : Own T s w lo (.slice none 0 0) 0 [] := ⟨World.ownsRow_nil _ _ _ _, fun g hg => by simp [Value.ownBlock] at hg⟩
section
variable {T s : Nat} {w w' : World} {lo : Nat} {v u : Value} {n : Nat} {cells : List Value} {G : Nat → Prop}
theorem Own.lt (h : Own T s w lo v n cells) {g : Nat} (hg : v.ownBlock = some g) : g < w.heap.size := ownsRow_lt h.row hg
theorem Own.chg (h : Own T s w lo v n cells) (c : Chg G w w') (hG : ∀ g, v.ownBlock = some g → ¬ G g) : Own T s w' lo v n cells := ⟨ownsRow_chg h.row c hG, h.lo⟩
theorem Own.quiet (h : Own T s w lo v n cells) (c : Chg (fun _ => False) w w') : Own T s w' lo v n cells := h.chg c (fun _ _ h => h)
theorem Own.base (h : Own T s w lo v n cells) {lo' : Nat} (hl : lo' ≤ lo) : Own T s w lo' v n cells := ⟨h.row, fun g hg => Nat.le_trans hl (h.lo g hg)⟩
theorem Own.read (h : Own T s w lo v n cells) : RowAt w (fun k => lo ≤ k) v n cells := by
  rcases h.row.2 with ⟨rfl, hn⟩ | ⟨g, cap, cur, rfl, hb, hg, r1, r2, r3, r4⟩
  · exact ⟨none, 0, by rw [hn], fun h => by omega⟩
  · refine ⟨some ⟨g, 0, none⟩, cap, rfl, fun _ => ⟨g, 0, rfl, lt_of_heap hg, h.lo g rfl, fun j k hj => ?_⟩⟩
    have := h.row.cells (g := g) rfl j k hj
    rw [Addr.add_mid] at this
    exact this
theorem Own.form (h : Own T s w lo v n cells) : ∃ ao c, v = .slice ao n c ∧ (0 < n → ∃ g, ao = some ⟨g, 0, none⟩ ∧ lo ≤ g) := by
  obtain ⟨ao, c, rfl, hp⟩ := ownsRow_form h.row
  refine ⟨ao, c, rfl, fun hn => ?_⟩
  obtain ⟨g, rfl⟩ := hp hn
  exact ⟨g, rfl, h.lo g rfl⟩
end
/-- What append must know of an element's type. -/
def ElemOk (S T s bytes : Nat) : Prop := Try.prog.underlying S = some (.slice T) ∧ ∃ i z, Try.prog.info? T = some i ∧ i.zero = some z ∧ i.size = s ∧ i.bytes = bytes ∧ z.cells.size = s
theorem elem_ok {S T s bytes : Nat} (hu : Try.prog.underlying S = some (.slice T)) (h : (Try.prog.info? T).map (fun i => (i.size, i.bytes, (i.zero.getD undef).cells.size, i.zero.isSome)) = some (s, bytes, s, true)) : ElemOk S T s bytes := by
  obtain ⟨i, hi, hzz⟩ := Option.map_eq_some_iff.1 h
  simp only [Prod.mk.injEq] at hzz
  obtain ⟨z, hz⟩ := Option.isSome_iff_exists.1 hzz.2.2.2
  refine ⟨hu, i, z, hi, hz, hzz.1, hzz.2.1, ?_⟩
  have := hzz.2.2.1
  rw [hz] at this
  exact this
theorem col_ok : ElemOk 25 30 4 32 := elem_ok Try.underlying25 (by kernel_rfl)
theorem ix_ok : ElemOk 36 64 4 48 := elem_ok Try.underlying36 (by kernel_rfl)
theorem tab_ok : ElemOk 34 27 2 40 := elem_ok Try.underlying34 (by kernel_rfl)
theorem val_ok : ElemOk 53 62 3 32 := elem_ok Try.underlying53 (by kernel_rfl)
theorem row_ok : ElemOk 40 53 1 24 := elem_ok Try.underlying40 (by kernel_rfl)
/-- append: what is added is read out of some row -/
theorem own_wp {S T sz bytes : Nat} (hE : ElemOk S T sz bytes) {o : Oper} {a : Act} {K : Act → World → Prop} {Q : Exit → Act → World → Prop} {w : World} (s x : Operand)
    (ho : o.op = .call { callee := .builtin .append, args := #[s, x], argTypes := #[S, S] }) (lo : Nat) (v : Value) (n : Nat) (cells : List Value) (hs : a.eval s = v) (h : Own T sz w lo v n cells)
    (F : Nat → Prop) (u : Value) (m : Nat) (news : List Value) (hx : a.eval x = u) (hu : RowAt w F u m news) (hl : news.length = m * sz) (h1 : ∀ u ∈ news, u.oneCell' = true) (hlen : n + m ≤ maxLen) (hb : (5 * (n + m) + 2040) * bytes ≤ 1125899906842624) (hlo : lo ≤ w.heap.size)
    (k : ∀ v' w', Own T sz w' lo v' (n + m) (cells ++ news) → Chg (fun k => v.ownBlock = some k) w w' → (∀ g, v'.ownBlock = some g → v.ownBlock = some g ∨ g = w.heap.size) → K (a.put o.dst v') w') : o.wp Try.prog a w K Q := by
  obtain ⟨hS, i0, z0, hi0, hz0, hs0, hb0, hzs0⟩ := hE
  obtain ⟨ao, cap, rfl, hr⟩ := hu
  have hn0 : m = 0 → news = [] := fun h => List.eq_nil_of_length_eq_zero (by rw [hl, h]; simp)
  by_cases hm : m = 0
  · have := hn0 hm
    subst this; subst hm
    have hr := run_app (P := Try.prog) w S o.type T i0 z0 sz bytes hS hi0 hz0 hs0 hb0 hzs0 v n cells h.row ao 0 cap [] (by simp) (fun _ => rfl) (fun ad _ j u hj => by simp at hj) (by simp) hlen hb
    obtain ⟨v', w', hrun, r2, r3, r4, r5, _⟩ := hr
    obtain ⟨rfl, rfl⟩ := r5 rfl
    unfold Oper.wp execOp
    simp only [ho, resolve, invoke, builtin, Sem.run_bind, Sem.run_pure, Result.andThen_ok, List.map_toArray, List.map_cons, List.map_nil, hs, hx, hrun]
    exact k v' w' ⟨by simpa using r2, h.lo⟩ ((Chg.refl _ _)) (fun g hg => .inl hg)
  · obtain ⟨b, of, rfl, hbl, _, hrg⟩ := hr (by omega)
    refine wp_app w s x S ho T i0 z0 sz bytes hS hi0 hz0 hs0 hb0 hzs0 v n cells hs h.row _ m cap news hx hl (fun h => by cases h) ?_ h1 hlen hb ?_
    · intro ad had j u hj
      obtain rfl := Option.some.inj had
      rw [Addr.add_mid]
      exact hrg j u hj
    · intro v' w' r g hat _ _
      have hlo' : ∀ g, v'.ownBlock = some g → v.ownBlock = some g ∨ g = w.heap.size := fun g hg => by
        rcases hat with h1 | h1
        · exact .inl (by rw [← h1]; exact hg)
        · rw [h1] at hg; exact .inr (by simpa using hg.symm)
      refine k v' w' ⟨r, fun g hg => ?_⟩ ?_ hlo'
      · rcases hlo' g hg with h1 | h1
        · exact h.lo g h1
        · omega
      · exact (Chg.refl (fun k => v.ownBlock = some k) w).grown g (fun k hk => .inl hk)
theorem own_app {S T sz bytes : Nat} (hE : ElemOk S T sz bytes) {ops : Array Oper} {rest : List Oper} {o : Oper} {a : Act} {Q : Exit → Act → World → Prop} {w : World} (hgd : o.guard = none) (s x : Operand)
    (ho : o.op = .call { callee := .builtin .append, args := #[s, x], argTypes := #[S, S] }) (lo : Nat) (v : Value) (n : Nat) (cells : List Value) (hs : a.eval s = v) (h : Own T sz w lo v n cells)
    (F : Nat → Prop) (u : Value) (m : Nat) (news : List Value) (hx : a.eval x = u) (hu : RowAt w F u m news) (hl : news.length = m * sz) (h1 : ∀ u ∈ news, u.oneCell' = true) (hlen : n + m ≤ maxLen) (hb : (5 * (n + m) + 2040) * bytes ≤ 1125899906842624) (hlo : lo ≤ w.heap.size)
    (k : ∀ v' w', Own T sz w' lo v' (n + m) (cells ++ news) → Chg (fun k => v.ownBlock = some k) w w' → (∀ g, v'.ownBlock = some g → v.ownBlock = some g ∨ g = w.heap.size) → wpList Try.prog ops Q rest (a.put o.dst v') w') : wpList Try.prog ops Q (o :: rest) a w :=
  wpList_plain hgd fun _ hK => own_wp hE s x ho lo v n cells hs h F u m news hx hu hl h1 hlen hb hlo fun v' w' a b c => hK _ _ (k v' w' a b c)
theorem row_one {w : World} {b T : Nat} {cs : List Value} {F : Nat → Prop} (hb : w.heap[b]? = some (.cells cs.toArray T (0, 0))) (hf : F b) : RowAt w F (.slice (some ⟨b, 0, none⟩) 1 1) 1 cs :=
  ⟨_, _, rfl, fun _ => ⟨b, 0, rfl, lt_of_heap hb, hf, range_block hb⟩⟩

/-! columns, indexes, tables -/
structure Col where
  name : ByteArray
  ty : Int
  nn : Bool
  un : Bool
def Col.cells (c : Col) : List Value := [.string c.name, .int .i64 c.ty, .bool c.nn, .bool c.un]
structure Ix where
  name : ByteArray
  tab : ByteArray
  col : Int
  hash : Bool
def Ix.cells (c : Ix) : List Value := [.string c.name, .string c.tab, .int .i64 c.col, .bool c.hash]
def Ix.val (c : Ix) : Value := .agg #[.string c.name, .string c.tab, .int .i64 c.col, .bool c.hash]
structure Tab where
  name : ByteArray
  cols : List Col
def colCells (cs : List Col) : List Value := cs.flatMap Col.cells
def ixCells (cs : List Ix) : List Value := cs.flatMap Ix.cells
theorem Col.len (c : Col) : c.cells.length = 4 := rfl
theorem Ix.len (c : Ix) : c.cells.length = 4 := rfl
theorem colCells_len (cs : List Col) : (colCells cs).length = cs.length * 4 := flatMap_len _ _ _ fun x _ => x.len
theorem ixCells_len (cs : List Ix) : (ixCells cs).length = cs.length * 4 := flatMap_len _ _ _ fun x _ => x.len
theorem colCells_one (cs : List Col) : ∀ u ∈ colCells cs, u.oneCell' = true := by
  intro u hu
  obtain ⟨c, _, hc⟩ := List.mem_flatMap.1 hu
  simp [Col.cells] at hc
  rcases hc with rfl | rfl | rfl | rfl <;> rfl
theorem ixCells_one (cs : List Ix) : ∀ u ∈ ixCells cs, u.oneCell' = true := by
  intro u hu
  obtain ⟨c, _, hc⟩ := List.mem_flatMap.1 hu
  simp [Ix.cells] at hc
  rcases hc with rfl | rfl | rfl | rfl <;> rfl
abbrev ColsAt (w : World) (F : Nat → Prop) (v : Value) (cs : List Col) : Prop := RowAt w F v cs.length (colCells cs)
abbrev IxsAt (w : World) (F : Nat → Prop) (v : Value) (cs : List Ix) : Prop := RowAt w F v cs.length (ixCells cs)
/-- a column's four cells -/
theorem ColsAt.col {w : World} {F : Nat → Prop} {cs : List Col} {ao : Option Addr} {cap : Nat} {v : Value} (hv : v = .slice ao cs.length cap) (h : ColsAt w F v cs) {i : Nat} {c : Col} (hi : cs[i]? = some c) :
    ∃ b o, ao = some ⟨b, o, none⟩ ∧ b < w.heap.size ∧ F b ∧ w.cell? ⟨b, o + i * 4, none⟩ = some (.string c.name) ∧ w.cell? ⟨b, o + i * 4 + 1, none⟩ = some (.int .i64 c.ty) ∧ w.cell? ⟨b, o + i * 4 + 2, none⟩ = some (.bool c.nn) ∧ w.cell? ⟨b, o + i * 4 + 3, none⟩ = some (.bool c.un) := by
  obtain ⟨ao', cap', hv', hp⟩ := h
  rw [hv] at hv'
  simp only [Value.slice.injEq] at hv'
  obtain ⟨rfl, _, rfl⟩ := hv'
  have hlt := (List.getElem?_eq_some_iff.1 hi).1
  obtain ⟨b, o, rfl, hb, hf, hr⟩ := hp (by omega)
  have he := range_elem (s := 4) hr (fun _ => rfl) hi
  exact ⟨b, o, rfl, hb, hf, he 0 _ rfl, he 1 _ rfl, he 2 _ rfl, he 3 _ rfl⟩
theorem IxsAt.ix {w : World} {F : Nat → Prop} {cs : List Ix} {ao : Option Addr} {cap : Nat} {v : Value} (hv : v = .slice ao cs.length cap) (h : IxsAt w F v cs) {i : Nat} {c : Ix} (hi : cs[i]? = some c) :
    ∃ b o, ao = some ⟨b, o, none⟩ ∧ b < w.heap.size ∧ F b ∧ w.cell? ⟨b, o + i * 4, none⟩ = some (.string c.name) ∧ w.cell? ⟨b, o + i * 4 + 1, none⟩ = some (.string c.tab) ∧ w.cell? ⟨b, o + i * 4 + 2, none⟩ = some (.int .i64 c.col) ∧ w.cell? ⟨b, o + i * 4 + 3, none⟩ = some (.bool c.hash) := by
  obtain ⟨ao', cap', hv', hp⟩ := h
  rw [hv] at hv'
  simp only [Value.slice.injEq] at hv'
  obtain ⟨rfl, _, rfl⟩ := hv'
  have hlt := (List.getElem?_eq_some_iff.1 hi).1
  obtain ⟨b, o, rfl, hb, hf, hr⟩ := hp (by omega)
  have he := range_elem (s := 4) hr (fun _ => rfl) hi
  exact ⟨b, o, rfl, hb, hf, he 0 _ rfl, he 1 _ rfl, he 2 _ rfl, he 3 _ rfl⟩
end Go.Proofs.Ytpiijcjbphpffaa
