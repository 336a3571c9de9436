/-
  Lemmas on worlds, frames, rows of cells, append and big variables, over any program. No condition beyond each lemma's own.
-/
import Derived.WalkKit
import Derived.Deep.AppendLies
import Derived.Deep.MidRow
import Derived.Deep.Quiet
set_option autoImplicit false
namespace Go.Proofs.YtnbckfkdmkbopaaGreatDoor
open Go Go.RowKit

/-! Frames: which blocks may have turned. -/
structure Chg (F : Nat → Prop) (w w' : World) : Prop where
  os : w'.os = w.os
  tape : w'.tape = w.tape
  output : w'.output = w.output
  size : w.heap.size ≤ w'.heap.size
  keep : ∀ k, k < w.heap.size → ¬ F k → w'.heap[k]? = w.heap[k]?
theorem Chg.refl (F : Nat → Prop) (w : World) : Chg F w w := ⟨rfl, rfl, rfl, Nat.le_refl _, fun _ _ _ => rfl⟩
theorem Chg.trans {F G : Nat → Prop} {a b c : World} (h : Chg F a b) (k : Chg G b c) (hG : ∀ x, G x → F x ∨ a.heap.size ≤ x) : Chg F a c :=
  ⟨k.os.trans h.os, k.tape.trans h.tape, k.output.trans h.output, Nat.le_trans h.size k.size, fun x hx hf => (k.keep x (Nat.lt_of_lt_of_le hx h.size) (fun hg => by rcases hG x hg with h1 | h1 <;> first | exact hf h1 | omega)).trans (h.keep x hx hf)⟩
theorem Chg.mono {F G : Nat → Prop} {a b : World} (h : Chg F a b) (hG : ∀ x, F x → G x ∨ a.heap.size ≤ x) : Chg G a b :=
  ⟨h.os, h.tape, h.output, h.size, fun x hx hf => h.keep x hx (fun hg => by rcases hG x hg with h1 | h1 <;> first | exact hf h1 | omega)⟩
theorem Chg.below {F : Nat → Prop} {B : Nat} {a b : World} (h : Chg F a b) (hF : ∀ x, F x → B ≤ x) (hB : B ≤ a.heap.size) : Below B a b :=
  ⟨h.os, h.tape, h.output, h.size, fun x hx => h.keep x (by omega) (fun hf => by have := hF x hf; omega)⟩
theorem Chg.drew {F : Nat → Prop} {a b : World} (h : Chg F a b) : Chg F a b.drew := ⟨h.os, h.tape, h.output, h.size, h.keep⟩
theorem Chg.drewN {F : Nat → Prop} {a b : World} (h : Chg F a b) (n : Nat) : Chg F a (b.drewN n) := ⟨h.os, h.tape, h.output, h.size, h.keep⟩
theorem hal_old {w : World} {o : Obj} {k : Nat} (h : k < w.heap.size) : (w.alloc o).heap[k]? = w.heap[k]? := by
  show (w.heap.push o)[k]? = _
  rw [Array.getElem?_push, if_neg (by omega)]
theorem hal_new {w : World} {o : Obj} : (w.alloc o).heap[w.heap.size]? = some o := by
  show (w.heap.push o)[w.heap.size]? = some o
  simp
theorem hset_ne {w : World} {r i k : Nat} {v : Value} (h : k ≠ r) : (w.setCell ⟨r, i, none⟩ v).heap[k]? = w.heap[k]? := by
  simp only [World.setCell, Array.getElem?_modify]
  rw [if_neg (by omega)]
theorem hset_eq {w : World} {r i : Nat} {v : Value} {c : Array Value} {t : TypeId} {f : Nat × Nat} (h : w.heap[r]? = some (.cells c t f)) :
    (w.setCell ⟨r, i, none⟩ v).heap[r]? = some (.cells (c.setIfInBounds i v) t f) := by
  simp only [World.setCell, Array.getElem?_modify, if_true, h]
  rfl
def setObj (w : World) (r : Nat) (o : Obj) : World := { w with heap := w.heap.setIfInBounds r o }
@[simp] theorem size_setObj (w : World) (r : Nat) (o : Obj) : (setObj w r o).heap.size = w.heap.size := by simp [setObj]
theorem hobj_ne {w : World} {r k : Nat} {o : Obj} (h : k ≠ r) : (setObj w r o).heap[k]? = w.heap[k]? := by
  simp only [setObj]
  rw [Array.getElem?_setIfInBounds_ne (by omega)]
theorem hobj_eq {w : World} {r : Nat} {o : Obj} (h : r < w.heap.size) : (setObj w r o).heap[r]? = some o := by
  simp [setObj, h]
theorem cell_of_heap {w w' : World} {b o : Nat} (h : w'.heap[b]? = w.heap[b]?) : w'.cell? ⟨b, o, none⟩ = w.cell? ⟨b, o, none⟩ := World.cell?_of_block (w := w) (a := ⟨b, o, none⟩) h
theorem range_of_heap {w w' : World} {b o : Nat} {cs : List Value} (h : w'.heap[b]? = w.heap[b]?) (hr : w.rangeAt b o cs) : w'.rangeAt b o cs := fun j v hj => (cell_of_heap h).trans (hr j v hj)
theorem cell_obj {w : World} {r b o : Nat} {x : Obj} (h : b ≠ r) : (setObj w r x).cell? ⟨b, o, none⟩ = w.cell? ⟨b, o, none⟩ := cell_of_heap (hobj_ne h)
theorem cell_set_ne {w : World} {r b o i : Nat} {v : Value} (h : b ≠ r) : (w.setCell ⟨r, i, none⟩ v).cell? ⟨b, o, none⟩ = w.cell? ⟨b, o, none⟩ := cell_of_heap (hset_ne h)
theorem range_block {w : World} {b : Nat} {cs : List Value} {t : TypeId} {f : Nat × Nat} (h : w.heap[b]? = some (.cells cs.toArray t f)) : w.rangeAt b 0 cs := fun j v hj => by
  rw [cell_of_row w b (0 + j) _ _ _ h]; simpa using hj
theorem Chg.alloc {F : Nat → Prop} {a b : World} (h : Chg F a b) (o : Obj) : Chg F a (b.alloc o) :=
  h.trans (G := fun _ => False) ⟨rfl, rfl, rfl, by simp, fun k hk _ => hal_old hk⟩ (fun _ h => h.elim)
theorem Chg.setCell {F : Nat → Prop} {a b : World} (h : Chg F a b) {p : Addr} (hp : F p.block ∨ a.heap.size ≤ p.block) (v : Value) : Chg F a (b.setCell p v) :=
  h.trans (G := fun k => k = p.block) ⟨rfl, rfl, rfl, by simp, fun k _ hk => Below.heap_setCell _ _ _ _ hk⟩ (fun x hx => by subst hx; exact hp)
theorem Chg.setObj {F : Nat → Prop} {a b : World} (h : Chg F a b) {r : Nat} (hp : F r ∨ a.heap.size ≤ r) (o : Obj) : Chg F a (setObj b r o) :=
  h.trans (G := fun k => k = r) ⟨rfl, rfl, rfl, by simp, fun k _ hk => hobj_ne hk⟩ (fun x hx => by subst hx; exact hp)
theorem Chg.grown {F : Nat → Prop} {a b c : World} {row : Option Nat} (h : Chg F a b) (hg : b.grownBy c row) (hr : ∀ k, row = some k → F k ∨ a.heap.size ≤ k) : Chg F a c :=
  h.trans (G := fun k => row = some k) ⟨hg.os, hg.tape, hg.output, hg.size, fun k hk hn => hg.block k hk (fun e => hn e.symm)⟩ hr
theorem Chg.setCells {F : Nat → Prop} {a b : World} (h : Chg F a b) {r o : Nat} (hp : F r ∨ a.heap.size ≤ r) : ∀ (vs : List Value), Chg F a (b.setCells r o vs) := by
  intro vs
  induction vs generalizing b o with
  | nil => exact h
  | cons v vs ih => exact ih (h.setCell (p := ⟨r, o, none⟩) hp v)
/-- The footprint with what has been made since. -/
def Ext (F : Nat → Prop) (w w' : World) (k : Nat) : Prop := F k ∨ (w.heap.size ≤ k ∧ k < w'.heap.size)
theorem lt_of_heap {w : World} {k : Nat} {o : Obj} (h : w.heap[k]? = some o) : k < w.heap.size := (Array.getElem?_eq_some_iff.1 h).1
theorem Chg.heap {F : Nat → Prop} {w w' : World} (h : Chg F w w') {k : Nat} {o : Obj} (hk : w.heap[k]? = some o) (hf : ¬ F k) : w'.heap[k]? = some o := (h.keep k (lt_of_heap hk) hf).trans hk
theorem Below.heap {B : Nat} {w w' : World} (h : Below B w w') {k : Nat} {o : Obj} (hk : w.heap[k]? = some o) (hf : k < B) : w'.heap[k]? = some o := (h.block k hf).trans hk

/-- A row of cells that a slice value heads. -/
theorem ownsRow_chg {F : Nat → Prop} {w w' : World} {b e s n : Nat} {v : Value} {xs : List Value} (h : w.ownsRow b e s v n xs) (c : Chg F w w') (hf : ∀ g, v.ownBlock = some g → ¬ F g) : w'.ownsRow b e s v n xs := by
  refine ⟨h.1, ?_⟩
  rcases h.2 with h2 | ⟨g, cap, cur, rfl, hb, hg, r⟩
  · exact .inl h2
  · exact .inr ⟨g, cap, cur, rfl, hb, c.heap hg (hf g rfl), r⟩
theorem ownsRow_lt {w : World} {b e s n : Nat} {v : Value} {xs : List Value} (h : w.ownsRow b e s v n xs) {g : Nat} (hg : v.ownBlock = some g) : g < w.heap.size := (h.lt g hg).2
theorem ownsRow_heap {w : World} {b e s n : Nat} {v : Value} {xs : List Value} (h : w.ownsRow b e s v n xs) {g : Nat} (hg : v.ownBlock = some g) : ∃ cur, w.heap[g]? = some (.cells cur e (0, 0)) := by
  rcases h.2 with ⟨rfl, _⟩ | ⟨g', cap, cur, rfl, hb, hh, r⟩
  · simp [Value.ownBlock] at hg
  · simp [Value.ownBlock] at hg
    subst hg
    exact ⟨cur, hh⟩

/-! append -/
theorem growBy_le (need : Nat) : ∀ (r c : Nat), 4 * Builtin.growBy need r c ≤ max (4 * c) (5 * need + 768)
  | 0, c => by simp [Builtin.growBy]; omega
  | r + 1, c => by
    unfold Builtin.growBy
    split
    · omega
    · have := growBy_le need r (c + (c + 768) / 4)
      omega
theorem nsc_le {need old : Nat} (h : old < need) : 4 * Builtin.nextslicecap need old ≤ 5 * need + 2040 := by
  unfold Builtin.nextslicecap
  split
  · omega
  · split
    · omega
    · have := growBy_le need 4 old
      omega
theorem nsc_fits {need old bytes : Nat} (h : old < need) (hb : (5 * need + 2040) * bytes ≤ 1125899906842624) : Builtin.nextslicecap need old * bytes ≤ 281474976710656 := by
  have h1 := Nat.mul_le_mul_right bytes (nsc_le h)
  rw [Nat.mul_assoc] at h1
  omega
section
variable {P : Program} (w : World)
theorem run_app (t ty e : TypeId) (i : TypeInfo) (z : Value) (size bytes : Nat) (ht : P.underlying t = some (.slice e)) (hi : P.info? e = some i) (hz : i.zero = some z)
    (hsize : i.size = size) (hby : i.bytes = bytes) (hzs : z.cells.size = size)
    (v : Value) (n : Nat) (xs : List Value) (hown : w.ownsRow 0 e size v n xs)
    (ao : Option Addr) (m c : Nat) (news : List Value) (hl : news.length = m * size) (hnone : ao = none → m = 0) (hnews : ∀ ad, ao = some ad → ∀ j u, news[j]? = some u → w.cell? (ad.add j) = some u) (h1 : ∀ u ∈ news, u.oneCell' = true)
    (h63 : n + m ≤ maxLen) (hbytes : (5 * (n + m) + 2040) * bytes ≤ 1125899906842624) :
    ∃ v' w', (Builtin.append_ #[t, t] ty #[v, .slice ao m c]).run P w = .ok v' w' ∧ w'.ownsRow 0 e size v' (n + m) (xs ++ news) ∧ w.grownBy w' v.ownBlock ∧
      (v'.ownBlock = v.ownBlock ∨ v'.ownBlock = some w.heap.size) ∧ (m = 0 → v' = v ∧ w' = w) ∧ (0 < m → ∃ g cap, v' = .slice (some ⟨g, 0, none⟩) (n + m) cap ∧ g < w'.heap.size) := by
  subst hsize
  subst hby
  have hsmall : n + m ≤ 9223372036854775807 := by simp only [maxLen] at h63; omega
  by_cases hm : m = 0
  · subst hm
    have hn : news = [] := List.eq_nil_of_length_eq_zero (by simpa using hl)
    subst hn
    refine ⟨v, w, ?_, by simpa using hown, ⟨rfl, rfl, rfl, Nat.le_refl _, fun _ _ _ => rfl⟩, .inl rfl, fun _ => ⟨rfl, rfl⟩, by omega⟩
    have hf : ∀ (ao : Option Addr) (c : Nat), (Builtin.firstCells i.size 0 (.slice ao 0 c)).run P w = .ok #[] w := by
      intro ao c
      cases ao <;> simp [Builtin.firstCells, loadCells, loadCellsFrom]
    rcases hown.2 with ⟨rfl, rfl⟩ | ⟨g, cap, cur, rfl, hbg, hg, hnc, _⟩
    · simp [Builtin.append_, run_underlying ht, sizeOf, typeInfo, hi, Builtin.lenOf, hf]
    · simp [Builtin.append_, run_underlying ht, sizeOf, typeInfo, hi, Builtin.lenOf, hf, hnc, storeCells]
  · cases ao with
    | none => exact absurd (hnone rfl) hm
    | some a =>
      have hnews := hnews a rfl
      have hlen : (xs ++ news).length = (n + m) * i.size := by rw [List.length_append, hown.1, hl, Nat.add_mul]
      have grown : ∀ (old : Nat), old < n + m → ∀ (row : Option Nat),
          (w.drew.alloc (.cells (xs.toArray ++ news.toArray ++ Builtin.zeroCells z.cells (grownCap w (n + m) old e - (n + m))) e)).ownsRow 0 e i.size
            (.slice (some ⟨w.heap.size, 0, none⟩) (n + m) (grownCap w (n + m) old e)) (n + m) (xs ++ news) ∧
          w.grownBy (w.drew.alloc (.cells (xs.toArray ++ news.toArray ++ Builtin.zeroCells z.cells (grownCap w (n + m) old e - (n + m))) e)) row := by
        intro old ho row
        have hge := grownCap_ge w (n + m) old e
        have hcm : grownCap w (n + m) old e ≤ maxLen := grownCap_le_maxLen w (n + m) old e h63
        refine ⟨⟨hlen, .inr ⟨w.heap.size, _, _, rfl, Nat.zero_le _, hal_new (w := w.drew), hge, hcm, ?_, ?_⟩⟩, ⟨rfl, rfl, rfl, by simp, fun k hk _ => hal_old (w := w.drew) hk⟩⟩
        · simp only [Array.size_append, List.size_toArray, size_zeroCells, hzs, hown.1, hl, ← Nat.add_mul]
          congr 1
          omega
        · simp only [Array.toList_append, List.append_assoc]
          rw [← List.append_assoc, ← hlen]
          exact List.take_left
      rcases hown.2 with ⟨rfl, rfl⟩ | ⟨g, cap, cur, rfl, hbg, hg, hnc, hcm, hcs, htake⟩
      · have hx : xs = [] := List.eq_nil_of_length_eq_zero (by simpa using hown.1)
        subst hx
        have hr := run_append_nil (P := P) w t ty e i z ht hi hz a m c news hl hnews (by omega) (by omega) (by
          have := hbytes; simp only [Nat.zero_add] at this
          have h5 : m * i.bytes ≤ (5 * m + 2040) * i.bytes := Nat.mul_le_mul_right _ (by omega)
          have h6 : 4 * (m * i.bytes) ≤ (5 * m + 2040) * i.bytes := by rw [← Nat.mul_assoc]; exact Nat.mul_le_mul_right _ (by omega)
          omega)
        have hgr := grown 0 (by omega) (Value.ownBlock (.slice none 0 0))
        simp only [Nat.zero_add, List.nil_append, Array.empty_append] at hgr ⊢
        exact ⟨_, _, hr, hgr.1, hgr.2, Or.inr rfl, by omega, fun _ => ⟨_, _, rfl, by simp⟩⟩
      · by_cases hroom : n + m ≤ cap
        · have hfit : n * i.size + news.length ≤ cur.size := by rw [hl, hcs, ← Nat.add_mul]; exact Nat.mul_le_mul_right _ hroom
          have hr := run_append_room (P := P) w t ty e i ht hi g n cap cur hg a m c news hl hnews h1 hroom hfit
          refine ⟨_, _, hr, ⟨hlen, .inr ⟨g, cap, _, rfl, hbg, setRow_heap w g cur _ e _ hg, hroom, hcm, ?_, ?_⟩⟩, ⟨rfl, rfl, rfl, by simp, fun k _ hk => setRow_other w g k _ (fun e => hk (by simp [Value.ownBlock, e]))⟩, Or.inl rfl, by omega, fun _ => ⟨_, _, rfl, by simpa using lt_of_heap hg⟩⟩
          · simp only [List.size_toArray, List.length_append, List.length_take, List.length_drop, Array.length_toList]
            omega
          · rw [htake, ← hlen]
            exact List.take_left
        · have holds : ∀ j u, xs[j]? = some u → w.cell? ((⟨g, 0, none⟩ : Addr).add j) = some u := hown.cells (g := g) rfl
          have hr := run_append_grow (P := P) w t ty e i z ht hi hz ⟨g, 0, none⟩ n cap xs hown.1 holds a m c news hl hnews (by omega) (by omega) (nsc_fits (by omega) hbytes)
          have hgr := grown cap (by omega) (Value.ownBlock (.slice (some ⟨g, 0, none⟩) n cap))
          exact ⟨_, _, hr, hgr.1, hgr.2, Or.inr rfl, by omega, fun _ => ⟨_, _, rfl, by simp⟩⟩
theorem wp_app {o : Oper} {a : Act} {K : Act → World → Prop} {Q : Exit → Act → World → Prop} (s x : Operand) (t : TypeId)
    (ho : o.op = .call { callee := .builtin .append, args := #[s, x], argTypes := #[t, t] })
    (e : TypeId) (i : TypeInfo) (z : Value) (size bytes : Nat) (ht : P.underlying t = some (.slice e)) (hi : P.info? e = some i) (hz : i.zero = some z)
    (hsize : i.size = size) (hby : i.bytes = bytes) (hzs : z.cells.size = size)
    (v : Value) (n : Nat) (xs : List Value) (hs : a.eval s = v) (hown : w.ownsRow 0 e size v n xs)
    (ao : Option Addr) (m c : Nat) (news : List Value) (hx : a.eval x = .slice ao m c) (hl : news.length = m * size) (hnone : ao = none → m = 0) (hnews : ∀ ad, ao = some ad → ∀ j u, news[j]? = some u → w.cell? (ad.add j) = some u) (h1 : ∀ u ∈ news, u.oneCell' = true)
    (h63 : n + m ≤ maxLen) (hbytes : (5 * (n + m) + 2040) * bytes ≤ 1125899906842624)
    (h : ∀ v' w', w'.ownsRow 0 e size v' (n + m) (xs ++ news) → w.grownBy w' v.ownBlock → (v'.ownBlock = v.ownBlock ∨ v'.ownBlock = some w.heap.size) → (m = 0 → v' = v ∧ w' = w) → (0 < m → ∃ g cap, v' = .slice (some ⟨g, 0, none⟩) (n + m) cap ∧ g < w'.heap.size) → K (a.put o.dst v') w') : o.wp P a w K Q := by
  obtain ⟨v', w', hr, h2, h3, h4, h5, h6⟩ := run_app (P := P) w t o.type e i z size bytes ht hi hz hsize hby hzs v n xs hown ao m c news hl hnone hnews h1 h63 hbytes
  unfold Oper.wp execOp
  simp only [ho, resolve, invoke, builtin, Sem.run_bind, Sem.run_pure, Result.andThen_ok, List.map_toArray, List.map_cons, List.map_nil, hs, hx, hr]
  exact h v' w' h2 h3 h4 h5 h6
theorem wpList_app {ops : Array Oper} {rest : List Oper} {o : Oper} {a : Act} {Q : Exit → Act → World → Prop} (hgd : o.guard = none) (s x : Operand) (t : TypeId)
    (ho : o.op = .call { callee := .builtin .append, args := #[s, x], argTypes := #[t, t] })
    (e : TypeId) (i : TypeInfo) (z : Value) (size bytes : Nat) (ht : P.underlying t = some (.slice e)) (hi : P.info? e = some i) (hz : i.zero = some z)
    (hsize : i.size = size) (hby : i.bytes = bytes) (hzs : z.cells.size = size)
    (v : Value) (n : Nat) (xs : List Value) (hs : a.eval s = v) (hown : w.ownsRow 0 e size v n xs)
    (ao : Option Addr) (m c : Nat) (news : List Value) (hx : a.eval x = .slice ao m c) (hl : news.length = m * size) (hnone : ao = none → m = 0) (hnews : ∀ ad, ao = some ad → ∀ j u, news[j]? = some u → w.cell? (ad.add j) = some u) (h1 : ∀ u ∈ news, u.oneCell' = true)
    (h63 : n + m ≤ maxLen) (hbytes : (5 * (n + m) + 2040) * bytes ≤ 1125899906842624)
    (h : ∀ v' w', w'.ownsRow 0 e size v' (n + m) (xs ++ news) → w.grownBy w' v.ownBlock → (v'.ownBlock = v.ownBlock ∨ v'.ownBlock = some w.heap.size) → (m = 0 → v' = v ∧ w' = w) → (0 < m → ∃ g cap, v' = .slice (some ⟨g, 0, none⟩) (n + m) cap ∧ g < w'.heap.size) → wpList P ops Q rest (a.put o.dst v') w') : wpList P ops Q (o :: rest) a w :=
  wpList_plain hgd fun _ hK => wp_app w s x t ho e i z size bytes ht hi hz hsize hby hzs v n xs hs hown ao m c news hx hl hnone hnews h1 h63 hbytes fun v' w' h2 h3 h4 h5 h6 => hK _ _ (h v' w' h2 h3 h4 h5 h6)
theorem step_app {ops : Array Oper} {o : Oper} {a : Act} {K : Act → World → Prop} {Q : Exit → Act → World → Prop} {E : Prop} (hgd : o.guard = none) (s x : Operand) (t : TypeId)
    (ho : o.op = .call { callee := .builtin .append, args := #[s, x], argTypes := #[t, t] })
    (e : TypeId) (i : TypeInfo) (z : Value) (size bytes : Nat) (ht : P.underlying t = some (.slice e)) (hi : P.info? e = some i) (hz : i.zero = some z)
    (hsize : i.size = size) (hby : i.bytes = bytes) (hzs : z.cells.size = size)
    (v : Value) (n : Nat) (xs : List Value) (hs : a.eval s = v) (hown : w.ownsRow 0 e size v n xs)
    (ao : Option Addr) (m c : Nat) (news : List Value) (hx : a.eval x = .slice ao m c) (hl : news.length = m * size) (hnone : ao = none → m = 0) (hnews : ∀ ad, ao = some ad → ∀ j u, news[j]? = some u → w.cell? (ad.add j) = some u) (h1 : ∀ u ∈ news, u.oneCell' = true)
    (h63 : n + m ≤ maxLen) (hbytes : (5 * (n + m) + 2040) * bytes ≤ 1125899906842624)
    (h : ∀ v' w', w'.ownsRow 0 e size v' (n + m) (xs ++ news) → w.grownBy w' v.ownBlock → (v'.ownBlock = v.ownBlock ∨ v'.ownBlock = some w.heap.size) → (m = 0 → v' = v ∧ w' = w) → (0 < m → ∃ g cap, v' = .slice (some ⟨g, 0, none⟩) (n + m) cap ∧ g < w'.heap.size) → K (a.put o.dst v') w') :
    if Region.wanted o (yielded ops a.tmps) = true then Oper.wp P o a w K Q else E := by
  have hw : Region.wanted o (yielded ops a.tmps) = true := by simp [Region.wanted, hgd]
  rw [if_pos hw]
  exact wp_app w s x t ho e i z size bytes ht hi hz hsize hby hzs v n xs hs hown ao m c news hx hl hnone hnews h1 h63 hbytes h
end

/-! building structs and one-element slices out of values of many cells -/
def splice (cells : Array Value) (off : Nat) (c : Array Value) : Array Value := cells.extract 0 off ++ c ++ cells.extract (off + c.size) cells.size
theorem foldl_set_size (off : Nat) : ∀ (l : List (Value × Nat)) (cells : Array Value), (l.foldl (fun cs (x : Value × Nat) => cs.setIfInBounds (off + x.2) x.1) cells).size = cells.size
  | [], _ => rfl
  | x :: l, cells => by rw [List.foldl_cons, foldl_set_size off l]; simp
theorem foldl_set_get (off : Nat) : ∀ (l : List Value) (k : Nat) (cells : Array Value), off + k + l.length ≤ cells.size → ∀ (j : Nat),
    ((l.zipIdx k).foldl (fun cs (x : Value × Nat) => cs.setIfInBounds (off + x.2) x.1) cells)[j]? = if off + k ≤ j ∧ j < off + k + l.length then l[j - (off + k)]? else cells[j]?
  | [], k, cells, _, j => by simp; omega
  | v :: l, k, cells, h, j => by
    simp only [List.length_cons] at h
    rw [List.zipIdx_cons, List.foldl_cons, foldl_set_get off l (k + 1) _ (by simp; omega) j]
    by_cases h1 : off + k = j
    · subst h1
      rw [if_neg (by omega), if_pos (by simp), Array.getElem?_setIfInBounds_self_of_lt (by omega)]
      simp
    · by_cases h2 : off + (k + 1) ≤ j ∧ j < off + (k + 1) + l.length
      · rw [if_pos h2, if_pos (by simp; omega)]
        obtain ⟨m, rfl⟩ : ∃ m, j = off + k + 1 + m := ⟨j - (off + k + 1), by omega⟩
        have e1 : off + k + 1 + m - (off + (k + 1)) = m := by omega
        have e2 : off + k + 1 + m - (off + k) = m + 1 := by omega
        rw [e1, e2, List.getElem?_cons_succ]
      · rw [if_neg h2, if_neg (by simp; omega), Array.getElem?_setIfInBounds_ne (by omega)]
theorem fill_splice {cells c : Array Value} {off : Nat} (h : off + c.size ≤ cells.size) : c.zipIdx.foldl (fun cs (x : Value × Nat) => cs.setIfInBounds (off + x.2) x.1) cells = splice cells off c := by
  rw [← Array.foldl_toList, Array.toList_zipIdx]
  apply Array.ext_getElem?
  intro j
  rw [foldl_set_get off c.toList 0 cells (by simpa using h) j]
  unfold splice
  simp only [Nat.add_zero, Array.length_toList, Array.getElem?_append, Array.size_append, Array.size_extract, Array.getElem?_extract, Nat.sub_zero, Array.getElem?_toList]
  have hm : min off cells.size = off := by omega
  simp only [hm]
  by_cases h1 : j < off
  · rw [if_neg (by omega), if_pos (by omega), if_pos (by omega), if_pos (by omega)]
    simp
  · by_cases h2 : j < off + c.size
    · rw [if_pos (by omega), if_pos (by omega), if_neg (by omega)]
    · rw [if_neg (by omega), if_neg (by omega)]
      by_cases h3 : j < cells.size
      · rw [if_pos (by omega)]
        congr 1
        omega
      · rw [if_neg (by omega)]
        simp; omega
theorem fill_cons {place : Nat → Option (Nat × Nat)} {cells : Array Value} {i off size : Nat} {v : Value} {rest : List (Nat × Value)} (hp : place i = some (off, size)) (hs : v.cells.size = size) (hf : off + size ≤ cells.size) :
    Instr.fill place cells ((i, v) :: rest) = Instr.fill place (splice cells off v.cells) rest := by
  conv => lhs; unfold Instr.fill
  rw [hp]
  simp only [hs, ne_eq, not_true, decide_false, Bool.false_or, decide_eq_true_eq]
  rw [if_neg (by omega), fill_splice (by omega)]
section
variable {P : Program} (w : World)
theorem run_buildSlice1 {t e : TypeId} {i : TypeInfo} {z v : Value} (ht : P.underlying t = some (.slice e)) (hi : P.info? e = some i) (hz : i.zero = some z) (hs : v.cells.size = i.size) (h0 : 0 < i.size) (hm : i.size ≤ 16777216) (hzs : z.cells.size = i.size) :
    (Instr.buildSlice t 1 #[(0, v)]).run P w = .ok (.slice (some ⟨w.heap.size, 0, none⟩) 1 1) (w.alloc (.cells v.cells e)) := by
  have hf : Instr.fill (fun j => some (j * i.size, i.size)) ((Array.range (1 * i.size)).map (z.cells[· % z.cells.size]!)) [(0, v)] = some v.cells := by
    rw [fill_cons (off := 0) (size := i.size) (by simp) hs (by simp)]
    unfold Instr.fill splice
    have : ((Array.range (1 * i.size)).map (z.cells[· % z.cells.size]!)).size = i.size := by simp
    simp only [Nat.zero_add, hs, this]
    simp
  simp only [Instr.buildSlice, Sem.run_bind, run_underlying ht, Result.andThen_ok]
  have hszr : (sizeOf e).run P w = .ok i.size w := by simp [sizeOf, typeInfo, hi]
  have hzr : (zeroValue e).run P w = .ok z w := by simp [zeroValue, typeInfo, hi, hz]
  simp only [hszr, Result.andThen_ok]
  rw [if_neg (by omega)]
  simp only [Sem.run_bind, Sem.run_pure, Result.andThen_ok, Sem.run_ite]
  rw [if_neg (by omega)]
  simp only [hzr, Sem.run_bind, Sem.run_pure, Result.andThen_ok, hf]
  simp [newRow]
end

/-! operations, by their run -/
theorem exec_load_mid {P : Program} {w : World} {e : Operand → Value} {o : Oper} {ty : TypeId} {x : Operand} {b off : Nat} {cs : List Value} {d : TypeDesc} (ho : o.op = .load ty x) (hx : e x = .pointer (some ⟨b, off, none⟩)) (hr : w.rangeAt b off cs)
    (hu : P.underlying ty = some d) (hd : d.isRow = true) (hi : (P.info? ty).map (·.size) = some cs.length) : (execOp e o).run P w = .ok (.value (.agg cs.toArray)) w := by
  unfold execOp
  simp only [ho, hx, Sem.run_bind, run_loadAt_mid w b off ty cs d hr hu hd hi, Result.andThen_ok, Sem.run_pure]

theorem ownsRow_form {w : World} {b e s n : Nat} {v : Value} {xs : List Value} (h : w.ownsRow b e s v n xs) : ∃ ao c, v = .slice ao n c ∧ (0 < n → ∃ g, ao = some ⟨g, 0, none⟩) := by
  rcases h.2 with ⟨rfl, rfl⟩ | ⟨g, cap, cur, rfl, _⟩
  · exact ⟨none, 0, rfl, by omega⟩
  · exact ⟨_, cap, rfl, fun _ => ⟨g, rfl⟩⟩
theorem ownsRow_range {w : World} {b e s n : Nat} {g c : Nat} {xs : List Value} (h : w.ownsRow b e s (.slice (some ⟨g, 0, none⟩) n c) n xs) (o m : Nat) : w.rangeAt g o ((xs.drop o).take m) := by
  intro j v hj
  have := h.cells (g := g) rfl (o + j) v (by
    rw [List.getElem?_take] at hj
    split at hj
    · rw [List.getElem?_drop] at hj; exact hj
    · cases hj)
  rw [Addr.add_mid] at this
  simpa using this
theorem chunk {α β : Type} (f : α → List β) (s : Nat) : ∀ (l : List α), (∀ x ∈ l, (f x).length = s) → ∀ (i : Nat) (x : α), l[i]? = some x → ((l.flatMap f).drop (i * s)).take s = f x
  | [], _, i, x, h => by simp at h
  | y :: l, hl, 0, x, h => by
    have hy := hl y (by simp)
    simp at h
    subst h
    rw [List.flatMap_cons, Nat.zero_mul, List.drop_zero, ← hy, List.take_left]
  | y :: l, hl, i + 1, x, h => by
    have hy := hl y (by simp)
    have ih := chunk f s l (fun z hz => hl z (by simp [hz])) i x (by simpa using h)
    rw [List.flatMap_cons, Nat.add_mul, Nat.one_mul, Nat.add_comm (i * s) s, ← List.drop_drop]
    rw [show ((f y ++ l.flatMap f).drop s) = l.flatMap f from by rw [← hy, List.drop_left]]
    exact ih
theorem flatMap_len {α β : Type} (f : α → List β) (s : Nat) : ∀ (l : List α), (∀ x ∈ l, (f x).length = s) → (l.flatMap f).length = l.length * s
  | [], _ => by simp
  | y :: l, hl => by
    rw [List.flatMap_cons, List.length_append, hl y (by simp), flatMap_len f s l (fun z hz => hl z (by simp [hz])), List.length_cons, Nat.add_mul, Nat.one_mul, Nat.add_comm]
theorem setCells_from (w : World) (t : TypeId) : ∀ (cs pre post : List Value), cs.length = post.length → (w.alloc (.cells (pre ++ post).toArray t)).setCells w.heap.size pre.length cs = w.alloc (.cells (pre ++ cs).toArray t)
  | [], pre, [], _ => rfl
  | c :: cs, pre, p :: post, h => by
    have ih := setCells_from w t cs (pre ++ [c]) post (by simpa using h)
    simp only [List.length_append, List.length_cons, List.length_nil, Nat.zero_add, List.append_assoc, List.cons_append, List.nil_append] at ih
    have e : (pre ++ p :: post).toArray.setIfInBounds pre.length c = (pre ++ c :: post).toArray := by
      apply Array.ext'; simp
    rw [World.setCells, World.setCell_alloc_at _ _ _ _ _ rfl, e, ih]
/-- a new variable of many cells, filled at once -/
theorem setCells_alloc (w : World) (t : TypeId) (z : Array Value) (cs : List Value) (h : cs.length = z.size) : (w.alloc (.cells z t)).setCells w.heap.size 0 cs = w.alloc (.cells cs.toArray t) := by
  have := setCells_from w t cs [] z.toList (by simpa using h)
  simpa using this
theorem setCells_alloc_drew (w : World) (t : TypeId) (z : Array Value) (cs : List Value) (h : cs.length = z.size) (n : Nat) (hn : n = w.heap.size) : (w.alloc (.cells z t)).setCells n 0 cs = w.alloc (.cells cs.toArray t) := by
  subst hn; exact setCells_alloc w t z cs h
theorem there_alloc_new (w : World) (t : TypeId) (z : Array Value) : (w.alloc (.cells z t)).there w.heap.size 0 z.size := by
  intro j hj
  refine ⟨?_, ?_⟩
  · rw [Nat.zero_add, World.cell?_alloc_new]; simp [hj]
  · rw [Nat.zero_add, World.frozen?_alloc_new]

/-! big variables, by the operation -/
section
variable {P : Program} {w : World} {ops : Array Oper} {rest : List Oper} {o : Oper} {a : Act} {Q : Exit → Act → World → Prop} {K : Act → World → Prop}
theorem wp_alloc_big (T n : Nat) (ho : o.op = .alloc T) (hi : (P.info? T).map (fun i => ((i.zero.getD undef).cells.size, i.zero.isSome)) = some (n, true))
    (h : ∀ z : Array Value, z.size = n → K (a.put o.dst (.pointer (some ⟨w.heap.size, 0, none⟩))) (w.alloc (.cells z T))) : o.wp P a w K Q := by
  obtain ⟨i, hi, hzz⟩ := Option.map_eq_some_iff.1 hi
  simp only [Prod.mk.injEq] at hzz
  obtain ⟨z, hz⟩ := Option.isSome_iff_exists.1 hzz.2
  have hs : z.cells.size = n := by have := hzz.1; rw [hz] at this; exact this
  have := h z.cells hs
  unfold Oper.wp execOp
  simp only [ho]
  have hzr : (zeroValue T).run P w = .ok z w := by simp [zeroValue, typeInfo, hi, hz]
  simp [Instr.alloc, hzr, newVar, newRow]
  exact this
theorem wpList_alloc_big (hg : o.guard = none) (T n : Nat) (ho : o.op = .alloc T) (hi : (P.info? T).map (fun i => ((i.zero.getD undef).cells.size, i.zero.isSome)) = some (n, true))
    (h : ∀ z : Array Value, z.size = n → wpList P ops Q rest (a.put o.dst (.pointer (some ⟨w.heap.size, 0, none⟩))) (w.alloc (.cells z T))) : wpList P ops Q (o :: rest) a w :=
  wpList_plain hg fun _ hK => wp_alloc_big T n ho hi fun z hz => hK _ _ (h z hz)
/-- a big value into a variable that has just been made -/
theorem wpList_store_new {z : Array Value} (hg : o.guard = none) (T : Nat) (x y : Operand) (ho : o.op = .store T x y) (cs : List Value) (b : Nat) (hb : b = w.heap.size) (hx : a.eval x = .pointer (some ⟨b, 0, none⟩)) (hy : a.eval y = .agg cs.toArray)
    (hz : cs.length = z.size) (hi : (P.info? T).map (·.size) = some cs.length) (h1 : ∀ v ∈ cs, v.oneCell' = true)
    (h : wpList P ops Q rest (a.put o.dst undef) (w.alloc (.cells cs.toArray T))) : wpList P ops Q (o :: rest) a (w.alloc (.cells z T)) := by
  subst hb
  refine wpList_store_mid hg T x y ho w.heap.size 0 cs.toArray hx hy ?_ (by simpa using hi) (all_oneCell_toArray h1) ?_
  · have e : cs.toArray.size = z.size := by simpa using hz
    rw [e]; exact there_alloc_new w T z
  · rw [List.toList_toArray, setCells_alloc w T z cs hz]
    exact h
/-- a whole block that holds what is stored -/
theorem wpList_load_big (hg : o.guard = none) (T : Nat) (x : Operand) (ho : o.op = .load T x) (b off : Nat) (hx : a.eval x = .pointer (some ⟨b, off, none⟩)) (cs : List Value) (d : TypeDesc) (hc : w.rangeAt b off cs)
    (hu : P.underlying T = some d) (hd : d.isRow = true) (hi : (P.info? T).map (·.size) = some cs.length)
    (h : wpList P ops Q rest (a.put o.dst (.agg cs.toArray)) w) : wpList P ops Q (o :: rest) a w :=
  wpList_load_mid hg T x ho b off hx cs d hc hu hd hi h
end

/-! results that lie in variables of many cells -/
theorem results_big1 {P : Program} {fn : Func} {p : Tmp} {ty : TypeId} (h : fn.results = #[.cell p ty]) (tmps : Array Value) (w : World) (g : Nat) (cs : List Value) (d : TypeDesc)
    (hp : tmps.getD p undef = .pointer (some ⟨g, 0, none⟩)) (hg : w.rangeAt g 0 cs) (hu : P.underlying ty = some d) (hd : d.isRow = true) (hi : (P.info? ty).map (·.size) = some cs.length) :
    (results fn tmps).run P w = .ok (.agg cs.toArray) w := by
  have hp' : tmps[p]?.getD undef = .pointer (some ⟨g, 0, none⟩) := by simpa using hp
  simp [results, h, hp', asAddr, run_loadVar_mid w g 0 ty cs d hg hu hd hi]
theorem results_big2 {P : Program} {fn : Func} {p t : Tmp} {ty : TypeId} (h : fn.results = #[.cell p ty, .tmp t]) (tmps : Array Value) (w : World) (g : Nat) (cs : List Value) (d : TypeDesc)
    (hp : tmps.getD p undef = .pointer (some ⟨g, 0, none⟩)) (hg : w.rangeAt g 0 cs) (hu : P.underlying ty = some d) (hd : d.isRow = true) (hi : (P.info? ty).map (·.size) = some cs.length) :
    (results fn tmps).run P w = .ok (.tuple #[.agg cs.toArray, tmps.getD t undef]) w := by
  have hp' : tmps[p]?.getD undef = .pointer (some ⟨g, 0, none⟩) := by simpa using hp
  simp [results, h, hp', asAddr, run_loadVar_mid w g 0 ty cs d hg hu hd hi]

theorem exec_lookup {P : Program} {w : World} {e : Operand → Value} {o : Oper} {ty : TypeId} {x y : Operand} {ok : Bool} {m k v : Value} (ho : o.op = .lookup ty x y ok) (hx : e x = m) (hy : e y = k)
    (hr : (Instr.lookup ty m k ok).run P w = .ok v w) : (execOp e o).run P w = .ok (.value v) w := by
  unfold execOp
  simp only [ho, hx, hy, Sem.run_bind, hr, Result.andThen_ok, Sem.run_pure]

/-! the same where the operation bears a guard that says yes -/
section
variable {P : Program} {w : World} {ops : Array Oper} {rest : List Oper} {o : Oper} {a : Act} {Q : Exit → Act → World → Prop}
theorem wpList_want (hw : Region.wanted o (yielded ops a.tmps) = true) (h : ∀ K : Act → World → Prop, (∀ a w, wpList P ops Q rest a w → K a w) → o.wp P a w K Q) : wpList P ops Q (o :: rest) a w :=
  wpList_step fun K hK => by rw [if_pos hw]; exact h K hK
theorem wpList_load_bigG (hw : Region.wanted o (yielded ops a.tmps) = true) (T : Nat) (x : Operand) (ho : o.op = .load T x) (b off : Nat) (hx : a.eval x = .pointer (some ⟨b, off, none⟩)) (cs : List Value) (d : TypeDesc) (hc : w.rangeAt b off cs)
    (hu : P.underlying T = some d) (hd : d.isRow = true) (hi : (P.info? T).map (·.size) = some cs.length)
    (h : wpList P ops Q rest (a.put o.dst (.agg cs.toArray)) w) : wpList P ops Q (o :: rest) a w :=
  wpList_want hw fun _ hK => wp_load_mid T x ho b off hx cs d hc hu hd hi (hK _ _ h)
end
end Go.Proofs.YtnbckfkdmkbopaaGreatDoor
