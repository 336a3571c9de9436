/-
  Rows of values, and lists of such rows. No condition beyond each lemma's own.
-/
import Derived.Test.YtpiijcjbphpffaaCTables
set_option autoImplicit false
namespace Go.Proofs.Ytpiijcjbphpffaa
open Go Go.RowKit

structure Val where
  kind : Int
  num : Int
  str : ByteArray
def Val.cells (v : Val) : List Value := [.int .i64 v.kind, .int .i64 v.num, .string v.str]
def valCells (l : List Val) : List Value := l.flatMap Val.cells
theorem Val.len (v : Val) : v.cells.length = 3 := rfl
theorem valCells_len (l : List Val) : (valCells l).length = l.length * 3 := flatMap_len _ _ _ fun x _ => x.len
theorem valCells_app (l m : List Val) : valCells (l ++ m) = valCells l ++ valCells m := List.flatMap_append
theorem valCells_one (l : List Val) : ∀ u ∈ valCells l, u.oneCell' = true := by
  intro u hu
  obtain ⟨c, _, hc⟩ := List.mem_flatMap.1 hu
  simp [Val.cells] at hc
  rcases hc with rfl | rfl | rfl <;> rfl
abbrev ValsAt (w : World) (F : Nat → Prop) (v : Value) (l : List Val) : Prop := RowAt w F v l.length (valCells l)
def truthV (b : Bool) : Val := ⟨2, if b then 1 else 0, ⟨#[]⟩⟩
def textV (s : ByteArray) : Val := ⟨3, 0, s⟩
def numV (n : Int) : Val := ⟨1, n, ⟨#[]⟩⟩
def colVals (x : Col) : List Val := [textV x.name, numV x.ty, truthV x.nn, truthV x.un]
def tabRow (t : Tab) : List Val := [truthV true, textV t.name] ++ t.cols.flatMap colVals
def ixRow (x : Ix) : List Val := [truthV false, textV x.name, textV x.tab, numV x.col, truthV x.hash]
def Cat.rows (C : Cat) : List (List Val) := C.tables.map tabRow ++ C.tables.flatMap fun t => (C.made t.name).map ixRow
/-- a value's three cells -/
theorem ValsAt.val {w : World} {F : Nat → Prop} {l : List Val} {ao : Option Addr} {cap : Nat} (h : ValsAt w F (.slice ao l.length cap) l) {i : Nat} {x : Val} (hi : l[i]? = some x) :
    ∃ b o, ao = some ⟨b, o, none⟩ ∧ b < w.heap.size ∧ F b ∧ w.cell? ⟨b, o + i * 3, none⟩ = some (.int .i64 x.kind) ∧ w.cell? ⟨b, o + i * 3 + 1, none⟩ = some (.int .i64 x.num) ∧ w.cell? ⟨b, o + i * 3 + 2, none⟩ = some (.string x.str) := by
  obtain ⟨ao', cap', hv', hp⟩ := h
  simp only [Value.slice.injEq] at hv'
  obtain ⟨rfl, _, rfl⟩ := hv'
  have hlt := (List.getElem?_eq_some_iff.1 hi).1
  obtain ⟨b, o, rfl, hb, hf, hr⟩ := hp (by omega)
  have he := range_elem (s := 3) hr (fun _ => rfl) hi
  exact ⟨b, o, rfl, hb, hf, he 0 _ rfl, he 1 _ rfl, he 2 _ rfl⟩

theorem own_new {T s n : Nat} (w : World) (lo : Nat) (cs : List Value) (hl : cs.length = n * s) (hn : n ≤ 1000000) (hlo : lo ≤ w.heap.size) : Own T s (w.alloc (.cells cs.toArray T)) lo (.slice (some ⟨w.heap.size, 0, none⟩) n n) n cs := by
  refine ⟨⟨hl, .inr ⟨w.heap.size, n, cs.toArray, rfl, Nat.zero_le _, hal_new, Nat.le_refl _, by unfold maxLen; omega, by simpa using hl, by rw [← hl, List.take_length]⟩⟩, fun g hg => ?_⟩
  simp [Value.ownBlock] at hg
  omega
/-! lists of rows -/
/-- a slice value's length is within its capacity -/
def CapOk (u : Value) : Prop := ∀ ao n c, u = .slice ao n c → n ≤ c
theorem Own.capOk {T s : Nat} {w : World} {lo : Nat} {v : Value} {n : Nat} {cells : List Value} (h : Own T s w lo v n cells) : CapOk v := by
  rcases h.row.2 with ⟨rfl, hn⟩ | ⟨g, cap, cur, rfl, _, _, h2, _⟩
  · intro ao m c he
    simp only [Value.slice.injEq] at he
    omega
  · intro ao m c he
    simp only [Value.slice.injEq] at he
    omega
theorem capOk_lit (ao : Option Addr) (n c : Nat) (h : n ≤ c) : CapOk (.slice ao n c) := by
  intro a m d he
  simp only [Value.slice.injEq] at he
  omega
def RowsEach (w : World) (F : Nat → Prop) (rows : List (List Val)) (us : List Value) : Prop := us.length = rows.length ∧ ∀ (i : Nat) (r : List Val) (u : Value), rows[i]? = some r → us[i]? = some u → ValsAt w F u r ∧ CapOk u
def RowsAt (w : World) (F : Nat → Prop) (v : Value) (rows : List (List Val)) : Prop := ∃ us, RowsEach w F rows us ∧ RowAt w F v rows.length us
theorem RowsEach.chg {w w' : World} {F G : Nat → Prop} {rows : List (List Val)} {us : List Value} (h : RowsEach w F rows us) (c : Chg G w w') (hd : ∀ k, F k → ¬ G k) : RowsEach w' F rows us := ⟨h.1, fun i t u ht hu => ⟨RowAt.chg (h.2 i t u ht hu).1 c hd, (h.2 i t u ht hu).2⟩⟩
theorem RowsEach.mono {w : World} {F G : Nat → Prop} {rows : List (List Val)} {us : List Value} (h : RowsEach w F rows us) (hG : ∀ k, F k → k < w.heap.size → G k) : RowsEach w G rows us := ⟨h.1, fun i t u ht hu => ⟨RowAt.mono (h.2 i t u ht hu).1 hG, (h.2 i t u ht hu).2⟩⟩
theorem RowsAt.chg {w w' : World} {F G : Nat → Prop} {v : Value} {ts : List (List Val)} (h : RowsAt w F v ts) (c : Chg G w w') (hd : ∀ k, F k → ¬ G k) : RowsAt w' F v ts := by
  obtain ⟨us, h1, h2⟩ := h
  exact ⟨us, h1.chg c hd, h2.chg c hd⟩
theorem RowsAt.quiet {w w' : World} {F : Nat → Prop} {v : Value} {ts : List (List Val)} (h : RowsAt w F v ts) (c : Chg (fun _ => False) w w') : RowsAt w' F v ts := h.chg c (fun _ _ h => h)
theorem RowsAt.mono {w : World} {F G : Nat → Prop} {v : Value} {ts : List (List Val)} (h : RowsAt w F v ts) (hG : ∀ k, F k → k < w.heap.size → G k) : RowsAt w G v ts := by
  obtain ⟨us, h1, h2⟩ := h
  exact ⟨us, h1.mono hG, h2.mono hG⟩
theorem RowsEach.app {w : World} {F : Nat → Prop} {rows : List (List Val)} {us : List Value} (h : RowsEach w F rows us) {r : List Val} {u : Value} (hu : ValsAt w F u r) (hcap : CapOk u) : RowsEach w F (rows ++ [r]) (us ++ [u]) := by
  refine ⟨by simp [h.1], fun i s v hs hv => ?_⟩
  by_cases hi : i < rows.length
  · rw [List.getElem?_append_left hi] at hs
    rw [List.getElem?_append_left (by rw [h.1]; exact hi)] at hv
    exact h.2 i s v hs hv
  · have hi2 : i = rows.length := by
      have := (List.getElem?_eq_some_iff.1 hs).1
      simp at this; omega
    subst hi2
    rw [List.getElem?_append_right (Nat.le_refl _)] at hs
    rw [List.getElem?_append_right (by rw [h.1]; exact Nat.le_refl _)] at hv
    rw [h.1] at hv
    simp at hs hv
    subst hs; subst hv
    exact ⟨hu, hcap⟩
/-- a list of rows that a call is making -/
def Rws (w : World) (B : Nat) (s : Value) (rows : List (List Val)) : Prop := ∃ us, Own 53 1 w B s rows.length us ∧ RowsEach w (fun g => B ≤ g ∧ s.ownBlock ≠ some g) rows us
theorem Rws.nil (w : World) (B : Nat) : Rws w B (.slice none 0 0) [] := ⟨[], Own.nil _ _ _ _, rfl, fun i r u hr _ => by simp at hr⟩
theorem Rws.chg {w w' : World} {G : Nat → Prop} {B : Nat} {s : Value} {rows : List (List Val)} (h : Rws w B s rows) (c : Chg G w w') (hG : ∀ g, B ≤ g → ¬ G g) : Rws w' B s rows := by
  obtain ⟨us, h1, h2⟩ := h
  exact ⟨us, h1.chg c (fun g hg => hG g (h1.lo g hg)), h2.chg c (fun k hk => hG k hk.1)⟩
theorem Rws.quiet {w w' : World} {B : Nat} {s : Value} {rows : List (List Val)} (h : Rws w B s rows) (c : Chg (fun _ => False) w w') : Rws w' B s rows := h.chg c (fun _ _ h => h)
theorem Rws.form {w : World} {B : Nat} {s : Value} {rows : List (List Val)} (h : Rws w B s rows) {n : Nat} (hn : rows.length = n) : ∃ ao c, s = .slice ao n c := by
  subst hn
  obtain ⟨us, h1, _⟩ := h
  obtain ⟨ao, c, rfl, _⟩ := h1.form
  exact ⟨ao, c, rfl⟩
theorem Rws.own {w : World} {B : Nat} {s : Value} {rows : List (List Val)} (h : Rws w B s rows) {g : Nat} (hg : s.ownBlock = some g) : B ≤ g ∧ g < w.heap.size := by
  obtain ⟨us, h1, _⟩ := h
  exact ⟨h1.lo g hg, h1.lt hg⟩
theorem Rws.read {w : World} {B : Nat} {s : Value} {rows : List (List Val)} (h : Rws w B s rows) : RowsAt w (fun g => B ≤ g) s rows := by
  obtain ⟨us, h1, h2⟩ := h
  exact ⟨us, h2.mono (fun k hk _ => hk.1), h1.read⟩
/-- one row more -/
theorem rws_wp {o : Oper} {a : Act} {K : Act → World → Prop} {Q : Exit → Act → World → Prop} {w : World} (s x : Operand) (ho : o.op = .call { callee := .builtin .append, args := #[s, x], argTypes := #[40, 40] })
    (B : Nat) (v : Value) (rows : List (List Val)) (n : Nat) (hn : rows.length = n) (hs : a.eval s = v) (h : Rws w B v rows) (blk : Nat) (u : Value) (r : List Val) (hx : a.eval x = .slice (some ⟨blk, 0, none⟩) 1 1) (hb : w.heap[blk]? = some (.cells #[u] 53 (0, 0)))
    (hu : ValsAt w (fun g => B ≤ g ∧ v.ownBlock ≠ some g) u r) (hcap : CapOk u) (hlen : n ≤ 1000000) (hlo : B ≤ w.heap.size)
    (k : ∀ ao c w', Rws w' B (.slice ao (n + 1) c) (rows ++ [r]) → Chg (fun g => v.ownBlock = some g) w w' → (∀ g, (Value.slice ao (n + 1) c).ownBlock = some g → v.ownBlock = some g ∨ g = w.heap.size) → K (a.put o.dst (.slice ao (n + 1) c)) w') : o.wp Try.prog a w K Q := by
  subst hn
  obtain ⟨us, h1, h2⟩ := h
  refine own_wp row_ok s x ho B v rows.length us hs h1 (fun _ => True) _ 1 [u] hx (row_one hb trivial) rfl ?_ (by unfold maxLen; omega) (by omega) hlo ?_
  · intro y hy
    obtain ⟨ao, c, rfl, _⟩ := hu
    simp at hy
    subst hy
    rfl
  · intro v' w' o1 c1 hat
    obtain ⟨ao, c, rfl, _⟩ := o1.form
    refine k ao c w' ⟨us ++ [u], by rw [List.length_append]; exact o1, ?_⟩ c1 hat
    refine ((h2.mono (G := fun g => (B ≤ g ∧ v.ownBlock ≠ some g) ∧ g < w.heap.size) (fun g hg hl => ⟨hg, hl⟩)).app (RowAt.mono hu (fun g hg hl => ⟨hg, hl⟩)) hcap).chg c1 (fun g hg h => hg.1.2 h) |>.mono ?_
    intro g hg _
    refine ⟨hg.1.1, fun h5 => ?_⟩
    rcases hat g h5 with h | h
    · exact hg.1.2 h
    · have := hg.2; omega
theorem rws_app {ops : Array Oper} {rest : List Oper} {o : Oper} {a : Act} {Q : Exit → Act → World → Prop} {w : World} (hgd : o.guard = none) (s x : Operand) (ho : o.op = .call { callee := .builtin .append, args := #[s, x], argTypes := #[40, 40] })
    (B : Nat) (v : Value) (rows : List (List Val)) (n : Nat) (hn : rows.length = n) (hs : a.eval s = v) (h : Rws w B v rows) (blk : Nat) (u : Value) (r : List Val) (hx : a.eval x = .slice (some ⟨blk, 0, none⟩) 1 1) (hb : w.heap[blk]? = some (.cells #[u] 53 (0, 0)))
    (hu : ValsAt w (fun g => B ≤ g ∧ v.ownBlock ≠ some g) u r) (hcap : CapOk u) (hlen : n ≤ 1000000) (hlo : B ≤ w.heap.size)
    (k : ∀ ao c w', Rws w' B (.slice ao (n + 1) c) (rows ++ [r]) → Chg (fun g => v.ownBlock = some g) w w' → (∀ g, (Value.slice ao (n + 1) c).ownBlock = some g → v.ownBlock = some g ∨ g = w.heap.size) → wpList Try.prog ops Q rest (a.put o.dst (.slice ao (n + 1) c)) w') : wpList Try.prog ops Q (o :: rest) a w :=
  wpList_plain hgd fun _ hK => rws_wp s x ho B v rows n hn hs h blk u r hx hb hu hcap hlen hlo fun ao c w' x y z => hK _ _ (k ao c w' x y z)
end Go.Proofs.Ytpiijcjbphpffaa
