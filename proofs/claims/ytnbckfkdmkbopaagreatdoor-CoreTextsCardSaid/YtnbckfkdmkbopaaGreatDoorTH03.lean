/-
  Rows of cells that slices head: those that somebody owns, and those that a call has made. No condition beyond each lemma's own.
  What is read, in plain Lean: the tokens of a text, the tree of a condition, its binding, what it comes to. No condition beyond each lemma's own.
-/
import Derived.Test.YtnbckfkdmkbopaaGreatDoorProg
import Derived.Test.YtnbckfkdmkbopaaGreatDoorTH02
import Derived.WalkLawsBesides
import Derived.WalkSpells
import Derived.BigQuiet
import Derived.Lib.Hide
import Derived.MapKept
import Derived.Deep.QuietTactic
import Derived.IntWalk
import Derived.Lib.IndexMore
import Derived.Lib.Case
set_option autoImplicit false
namespace Go.Proofs.YtnbckfkdmkbopaaGreatDoor
open Go Go.RowKit

/-! a row that is read: it lies in a block of F -/
def RowAt (w : World) (F : Nat → Prop) (v : Value) (n : Nat) (cells : List Value) : Prop :=
  ∃ ao cap, v = .slice ao n cap ∧ (0 < n → ∃ b o, ao = some ⟨b, o, none⟩ ∧ b < w.heap.size ∧ F b ∧ w.rangeAt b o cells)
section
variable {w w' : World} {F G : Nat → Prop} {v : Value} {n : Nat} {cells : List Value}
theorem RowAt.chg (h : RowAt w F v n cells) (c : Chg G w w') (hd : ∀ k, F k → ¬ G k) : RowAt w' F v n cells := by
  obtain ⟨ao, cap, rfl, h⟩ := h
  refine ⟨ao, cap, rfl, fun hn => ?_⟩
  obtain ⟨b, o, rfl, hb, hf, hr⟩ := h hn
  exact ⟨b, o, rfl, Nat.lt_of_lt_of_le hb c.size, hf, range_of_heap (c.keep b hb (hd b hf)) hr⟩
theorem RowAt.quiet (h : RowAt w F v n cells) (c : Chg (fun _ => False) w w') : RowAt w' F v n cells := h.chg c (fun _ _ h => h)
theorem RowAt.mono (h : RowAt w F v n cells) (hG : ∀ k, F k → k < w.heap.size → G k) : RowAt w G v n cells := by
  obtain ⟨ao, cap, rfl, h⟩ := h
  refine ⟨ao, cap, rfl, fun hn => ?_⟩
  obtain ⟨b, o, rfl, hb, hf, hr⟩ := h hn
  exact ⟨b, o, rfl, hb, hG b hf hb, hr⟩
theorem RowAt.nil (w : World) (F : Nat → Prop) (ao : Option Addr) (cap : Nat) : RowAt w F (.slice ao 0 cap) 0 [] := ⟨ao, cap, rfl, fun h => absurd h (Nat.lt_irrefl 0)⟩
end
theorem range_add {w : World} {b o i : Nat} {a c : List Value} (h : w.rangeAt b o (a ++ c)) (hi : a.length = i) : w.rangeAt b (o + i) c := by
  subst hi
  intro j v hj
  have := h (a.length + j) v (by rw [List.getElem?_append_right (by omega)]; simpa using hj)
  rw [Nat.add_assoc]; exact this
theorem range_left {w : World} {b o : Nat} {a c : List Value} (h : w.rangeAt b o (a ++ c)) : w.rangeAt b o a := by
  intro j v hj
  have hl : j < a.length := (List.getElem?_eq_some_iff.1 hj).1
  exact h j v (by rw [List.getElem?_append_left hl]; exact hj)
/-- the cells of element number i -/
theorem range_elem {α : Type} {w : World} {b o s : Nat} {l : List α} {f : α → List Value} (h : w.rangeAt b o (l.flatMap f)) (hs : ∀ x, (f x).length = s) {i : Nat} {x : α} (hx : l[i]? = some x) : w.rangeAt b (o + i * s) (f x) := by
  have hc := chunk f s l (fun z _ => hs z) i x hx
  intro j v hj
  have hl : j < s := by have := (List.getElem?_eq_some_iff.1 hj).1; rw [hs] at this; exact this
  refine (Nat.add_assoc _ _ _ ▸ h (i * s + j) v ?_)
  rw [← hc, List.getElem?_take, if_pos hl, List.getElem?_drop] at hj
  exact hj

/-! a row that a call has made for itself -/
structure Own (T s : Nat) (w : World) (lo : Nat) (v : Value) (n : Nat) (cells : List Value) : Prop where
  row : w.ownsRow 0 T s v n cells
  lo : ∀ g, v.ownBlock = some g → lo ≤ g
theorem Own.nil (T s : Nat) (w : World) (lo : Nat) : Own T s w lo (.slice none 0 0) 0 [] := ⟨World.ownsRow_nil _ _ _ _, fun g hg => by simp [Value.ownBlock] at hg⟩
section
variable {T s : Nat} {w w' : World} {lo : Nat} {v u : Value} {n : Nat} {cells : List Value} {G : Nat → Prop}
theorem Own.lt (h : Own T s w lo v n cells) {g : Nat} (hg : v.ownBlock = some g) : g < w.heap.size := ownsRow_lt h.row hg
theorem Own.chg (h : Own T s w lo v n cells) (c : Chg G w w') (hG : ∀ g, v.ownBlock = some g → ¬ G g) : Own T s w' lo v n cells := ⟨ownsRow_chg h.row c hG, h.lo⟩
theorem Own.quiet (h : Own T s w lo v n cells) (c : Chg (fun _ => False) w w') : Own T s w' lo v n cells := h.chg c (fun _ _ h => h)
theorem Own.base (h : Own T s w lo v n cells) {lo' : Nat} (hl : lo' ≤ lo) : Own T s w lo' v n cells := ⟨h.row, fun g hg => Nat.le_trans hl (h.lo g hg)⟩
theorem Own.read (h : Own T s w lo v n cells) : RowAt w (fun k => lo ≤ k) v n cells := by
  rcases h.row.2 with ⟨rfl, hn⟩ | ⟨g, cap, cur, rfl, hb, hg, r1, r2, r3, r4⟩
  · exact ⟨none, 0, by rw [hn], fun h => by omega⟩
  · refine ⟨some ⟨g, 0, none⟩, cap, rfl, fun _ => ⟨g, 0, rfl, lt_of_heap hg, h.lo g rfl, fun j k hj => ?_⟩⟩
    have := h.row.cells (g := g) rfl j k hj
    rw [Addr.add_mid] at this
    exact this
theorem Own.form (h : Own T s w lo v n cells) : ∃ ao c, v = .slice ao n c ∧ (0 < n → ∃ g, ao = some ⟨g, 0, none⟩ ∧ lo ≤ g) := by
  obtain ⟨ao, c, rfl, hp⟩ := ownsRow_form h.row
  refine ⟨ao, c, rfl, fun hn => ?_⟩
  obtain ⟨g, rfl⟩ := hp hn
  exact ⟨g, rfl, h.lo g rfl⟩
end
theorem Own.cap {T s : Nat} {w : World} {lo : Nat} {ao : Option Addr} {n c : Nat} {cells : List Value} (h : Own T s w lo (.slice ao n c) n cells) : n ≤ c := by
  rcases h.row.2 with ⟨e, h0⟩ | ⟨g, cap, cur, e, hb, hg, r1, _⟩
  · omega
  · simp only [Value.slice.injEq] at e
    obtain ⟨_, _, rfl⟩ := e
    exact r1
/-- What append must know of an element's type. -/
def ElemOk (S T s bytes : Nat) : Prop := Tryz.prog.underlying S = some (.slice T) ∧ ∃ i z, Tryz.prog.info? T = some i ∧ i.zero = some z ∧ i.size = s ∧ i.bytes = bytes ∧ z.cells.size = s
theorem elem_ok {S T s bytes : Nat} (hu : Tryz.prog.underlying S = some (.slice T)) (h : (Tryz.prog.info? T).map (fun i => (i.size, i.bytes, (i.zero.getD undef).cells.size, i.zero.isSome)) = some (s, bytes, s, true)) : ElemOk S T s bytes := by
  obtain ⟨i, hi, hzz⟩ := Option.map_eq_some_iff.1 h
  simp only [Prod.mk.injEq] at hzz
  obtain ⟨z, hz⟩ := Option.isSome_iff_exists.1 hzz.2.2.2
  refine ⟨hu, i, z, hi, hz, hzz.1, hzz.2.1, ?_⟩
  have := hzz.2.2.1
  rw [hz] at this
  exact this
theorem val_ok : ElemOk 41 26 3 32 := elem_ok Tryz.underlying41 (by kernel_rfl)
theorem row_ok : ElemOk 22 41 1 24 := elem_ok Tryz.underlying22 (by kernel_rfl)
theorem tok_ok : ElemOk 93 133 3 32 := elem_ok Tryz.underlying93 (by kernel_rfl)
theorem ex_ok : ElemOk 27 29 8 104 := elem_ok Tryz.underlying27 (by kernel_rfl)
theorem int_ok : ElemOk 42 3 1 8 := elem_ok Tryz.underlying42 (by kernel_rfl)
theorem bcol_ok : ElemOk 66 112 3 40 := elem_ok Tryz.underlying66 (by kernel_rfl)
theorem u8_ok : ElemOk 157 5 1 1 := elem_ok Tryz.underlying157 (by kernel_rfl)
theorem ret_bool {a b : Bool} (h : a = b) : Ending.returned (.bool a) = .returned (.bool b) := by rw [h]
theorem ret_int {k : IntKind} {a b : Int} (h : a = b) : Ending.returned (.int k a) = .returned (.int k b) := by rw [h]
theorem ret_str {a b : ByteArray} (h : a = b) : Ending.returned (.string a) = .returned (.string b) := by rw [h]
/-- append: what is added is read out of some row -/
theorem own_wp {S T sz bytes : Nat} (hE : ElemOk S T sz bytes) {o : Oper} {a : Act} {K : Act → World → Prop} {Q : Exit → Act → World → Prop} {w : World} (s x : Operand)
    (ho : o.op = .call { callee := .builtin .append, args := #[s, x], argTypes := #[S, S] }) (lo : Nat) (v : Value) (n : Nat) (cells : List Value) (hs : a.eval s = v) (h : Own T sz w lo v n cells)
    (F : Nat → Prop) (u : Value) (m : Nat) (news : List Value) (hx : a.eval x = u) (hu : RowAt w F u m news) (hl : news.length = m * sz) (h1 : ∀ u ∈ news, u.oneCell' = true) (hlen : n + m ≤ maxLen) (hb : (5 * (n + m) + 2040) * bytes ≤ 1125899906842624) (hlo : lo ≤ w.heap.size)
    (k : ∀ v' w', Own T sz w' lo v' (n + m) (cells ++ news) → Chg (fun k => v.ownBlock = some k) w w' → (∀ g, v'.ownBlock = some g → v.ownBlock = some g ∨ g = w.heap.size) → K (a.put o.dst v') w') : o.wp Tryz.prog a w K Q := by
  obtain ⟨hS, i0, z0, hi0, hz0, hs0, hb0, hzs0⟩ := hE
  obtain ⟨ao, cap, rfl, hr⟩ := hu
  have hn0 : m = 0 → news = [] := fun h => List.eq_nil_of_length_eq_zero (by rw [hl, h]; simp)
  by_cases hm : m = 0
  · have := hn0 hm
    subst this; subst hm
    have hr := run_app (P := Tryz.prog) w S o.type T i0 z0 sz bytes hS hi0 hz0 hs0 hb0 hzs0 v n cells h.row ao 0 cap [] (by simp) (fun _ => rfl) (fun ad _ j u hj => by simp at hj) (by simp) hlen hb
    obtain ⟨v', w', hrun, r2, r3, r4, r5, _⟩ := hr
    obtain ⟨rfl, rfl⟩ := r5 rfl
    unfold Oper.wp execOp
    simp only [ho, resolve, invoke, builtin, Sem.run_bind, Sem.run_pure, Result.andThen_ok, List.map_toArray, List.map_cons, List.map_nil, hs, hx, hrun]
    exact k v' w' ⟨by simpa using r2, h.lo⟩ ((Chg.refl _ _)) (fun g hg => .inl hg)
  · obtain ⟨b, of, rfl, hbl, _, hrg⟩ := hr (by omega)
    refine wp_app w s x S ho T i0 z0 sz bytes hS hi0 hz0 hs0 hb0 hzs0 v n cells hs h.row _ m cap news hx hl (fun h => by cases h) ?_ h1 hlen hb ?_
    · intro ad had j u hj
      obtain rfl := Option.some.inj had
      rw [Addr.add_mid]
      exact hrg j u hj
    · intro v' w' r g hat _ _
      have hlo' : ∀ g, v'.ownBlock = some g → v.ownBlock = some g ∨ g = w.heap.size := fun g hg => by
        rcases hat with h1 | h1
        · exact .inl (by rw [← h1]; exact hg)
        · rw [h1] at hg; exact .inr (by simpa using hg.symm)
      refine k v' w' ⟨r, fun g hg => ?_⟩ ?_ hlo'
      · rcases hlo' g hg with h1 | h1
        · exact h.lo g h1
        · omega
      · exact (Chg.refl (fun k => v.ownBlock = some k) w).grown g (fun k hk => .inl hk)
theorem own_app {S T sz bytes : Nat} (hE : ElemOk S T sz bytes) {ops : Array Oper} {rest : List Oper} {o : Oper} {a : Act} {Q : Exit → Act → World → Prop} {w : World} (hgd : o.guard = none) (s x : Operand)
    (ho : o.op = .call { callee := .builtin .append, args := #[s, x], argTypes := #[S, S] }) (lo : Nat) (v : Value) (n : Nat) (cells : List Value) (hs : a.eval s = v) (h : Own T sz w lo v n cells)
    (F : Nat → Prop) (u : Value) (m : Nat) (news : List Value) (hx : a.eval x = u) (hu : RowAt w F u m news) (hl : news.length = m * sz) (h1 : ∀ u ∈ news, u.oneCell' = true) (hlen : n + m ≤ maxLen) (hb : (5 * (n + m) + 2040) * bytes ≤ 1125899906842624) (hlo : lo ≤ w.heap.size)
    (k : ∀ v' w', Own T sz w' lo v' (n + m) (cells ++ news) → Chg (fun k => v.ownBlock = some k) w w' → (∀ g, v'.ownBlock = some g → v.ownBlock = some g ∨ g = w.heap.size) → wpList Tryz.prog ops Q rest (a.put o.dst v') w') : wpList Tryz.prog ops Q (o :: rest) a w :=
  wpList_plain hgd fun _ hK => own_wp hE s x ho lo v n cells hs h F u m news hx hu hl h1 hlen hb hlo fun v' w' a b c => hK _ _ (k v' w' a b c)
theorem row_one {w : World} {b T : Nat} {cs : List Value} {F : Nat → Prop} (hb : w.heap[b]? = some (.cells cs.toArray T (0, 0))) (hf : F b) : RowAt w F (.slice (some ⟨b, 0, none⟩) 1 1) 1 cs :=
  ⟨_, _, rfl, fun _ => ⟨b, 0, rfl, lt_of_heap hb, hf, range_block hb⟩⟩

end Go.Proofs.YtnbckfkdmkbopaaGreatDoor

set_option autoImplicit false
namespace Go.Proofs.YtnbckfkdmkbopaaGreatDoor
open Go

abbrev Str := List UInt8

/-! tokens -/
structure Tok where
  kind : Int
  text : Str
  num : Int
def letB (c : UInt8) : Bool := c == 95 || (decide (97 ≤ c ||| 32) && decide (c ||| 32 ≤ 122))
def digB (c : UInt8) : Bool := decide (48 ≤ c) && decide (c ≤ 57)
def spB (c : UInt8) : Bool := c == 32 || c == 9 || c == 10 || c == 13
def wordB (c : UInt8) : Bool := letB c || digB c
def kw : Str := [32, 65, 78, 68, 32, 65, 83, 32, 65, 83, 67, 32, 66, 69, 71, 73, 78, 32, 66, 79, 79, 76, 32, 66, 89, 32, 67, 79, 77, 77, 73, 84, 32, 67, 79, 85, 78, 84, 32, 67, 82, 69, 65, 84, 69, 32, 68, 69, 76, 69, 84, 69, 32, 68, 69, 83, 67, 32, 70, 65, 76, 83, 69, 32, 70, 82, 79, 77, 32, 71, 82, 79, 85, 80, 32, 72, 65, 83, 72, 32, 73, 78, 68, 69, 88, 32, 73, 78, 78, 69, 82, 32, 73, 78, 83, 69, 82, 84, 32, 73, 78, 84, 32, 73, 78, 84, 79, 32, 73, 83, 32, 74, 79, 73, 78, 32, 75, 69, 89, 32, 76, 73, 77, 73, 84, 32, 77, 65, 88, 32, 77, 73, 78, 32, 78, 79, 84, 32, 78, 85, 76, 76, 32, 79, 78, 32, 79, 82, 32, 79, 82, 68, 69, 82, 32, 80, 82, 73, 77, 65, 82, 89, 32, 82, 79, 76, 76, 66, 65, 67, 75, 32, 83, 69, 76, 69, 67, 84, 32, 83, 69, 84, 32, 83, 85, 77, 32, 84, 65, 66, 76, 69, 32, 84, 69, 88, 84, 32, 84, 82, 85, 69, 32, 85, 78, 73, 81, 85, 69, 32, 85, 80, 68, 65, 84, 69, 32, 85, 83, 73, 78, 71, 32, 86, 65, 76, 85, 69, 83, 32, 87, 72, 69, 82, 69, 32]
def sgs : Str := [32, 60, 62, 32, 60, 61, 32, 62, 61, 32, 40, 32, 41, 32, 44, 32, 59, 32, 42, 32, 43, 32, 45, 32, 47, 32, 37, 32, 61, 32, 60, 32, 62, 32, 46, 32]
def hasSub : Str → Str → Bool
  | [], sub => sub.isEmpty
  | b :: l, sub => sub.isPrefixOf (b :: l) || hasSub l sub
def isKw (up : Str) : Bool := hasSub kw (32 :: (up ++ [32]))
def isSg (s : Str) : Bool := hasSub sgs (32 :: (s ++ [32]))
def numL : Str → Int → Option Int
  | [], n => some n
  | x :: r, n => if (9223372036854775807 - ((x.toNat : Int) - 48)) / 10 < n then none else numL r (10 * n + ((x.toNat : Int) - 48))
def textL : Str → Str → Option (Str × Str)
  | [], _ => none
  | x :: r, b =>
    if x == 39 then
      match r with
      | [] => if b.length ≤ 64 then some (b, []) else none
      | y :: r' => if y == 39 then textL r' (b ++ [39]) else if b.length ≤ 64 then some (b, y :: r') else none
    else textL r (b ++ [x])
def signL : Str → Option (Tok × Str)
  | [] => none
  | [a] => if isSg [a] then some (⟨5, [a], 0⟩, []) else none
  | a :: b :: r => if isSg [a, b] then some (⟨5, [a, b], 0⟩, r) else if isSg [a] then some (⟨5, [a], 0⟩, b :: r) else none
def wordL (l : Str) : Option (Tok × Str) :=
  if isKw ((l.takeWhile wordB).map Lib.upperB) then some (⟨1, (l.takeWhile wordB).map Lib.upperB, 0⟩, l.dropWhile wordB)
  else if (l.takeWhile wordB).length ≤ 32 then some (⟨2, (l.takeWhile wordB).map Lib.lowerB, 0⟩, l.dropWhile wordB) else none
def headLet : Str → Bool
  | [] => false
  | x :: _ => letB x
def numberL (l : Str) : Option (Tok × Str) :=
  match numL (l.takeWhile digB) 0 with
  | none => none
  | some n => if headLet (l.dropWhile digB) then none else some (⟨3, [], n⟩, l.dropWhile digB)
def quoteL (r : Str) : Option (Tok × Str) :=
  match textL r [] with
  | none => none
  | some (b, r') => some (⟨4, b, 0⟩, r')
def oneL (x : UInt8) (r : Str) : Option (Tok × Str) :=
  if letB x then wordL (x :: r) else if digB x then numberL (x :: r) else if x == 39 then quoteL r else signL (x :: r)
def lexAll : Nat → Str → Option (List Tok)
  | n, l =>
    match l.dropWhile spB with
    | [] => some []
    | x :: r =>
      match n with
      | 0 => none
      | n + 1 =>
        match oneL x r with
        | none => none
        | some (t, r') =>
          match lexAll n r' with
          | none => none
          | some ts => some (t :: ts)
def lexS (l : Str) : Option (List Tok) := if 2048 < l.length then none else lexAll l.length l

/-! values and trees -/
structure Val where
  kind : Int
  num : Int
  str : Str
def Val.null : Val := ⟨0, 0, []⟩
inductive Ex where
  | val (v : Val)
  | col (t n : Str)
  | slot (n : Int)
  | cnt
  | un (k : Int) (a : Ex)
  | bin (k : Int) (a b : Ex)
def Ex.kind : Ex → Int
  | .val _ => 1
  | .col _ _ => 2
  | .slot _ => 24
  | .cnt => 20
  | .un k _ => k
  | .bin k _ _ => k
def Ex.hgt : Ex → Nat
  | .un _ a => a.hgt + 1
  | .bin _ a b => max a.hgt b.hgt + 1
  | _ => 1

/-! the tree of a list of tokens -/
abbrev Ptree := List Tok → Option (Ex × List Tok)
def nextT (k : Int) (s : Str) : List Tok → Option (List Tok)
  | [] => none
  | t :: r => if t.kind == k && t.text == s then some r else none
def pick (k : Int) : List (Str × Int) → List Tok → Option (Int × List Tok)
  | [], _ => none
  | (s, n) :: l, ts =>
    match nextT k s ts with
    | some r => some (n, r)
    | none => pick k l ts
def chainL (part : Ptree) (k : Int) (ops : List (Str × Int)) : Nat → Ex → List Tok → Option (Ex × List Tok)
  | 0, _, _ => none
  | n + 1, x, ts =>
    match pick k ops ts with
    | none => some (x, ts)
    | some (o, ts') =>
      match part ts' with
      | none => none
      | some (y, ts'') => chainL part k ops n (.bin o x y) ts''
def sOR : Str := [79, 82]
def sAND : Str := [65, 78, 68]
def sNOT : Str := [78, 79, 84]
def sIS : Str := [73, 83]
def sNULL : Str := [78, 85, 76, 76]
def sTRUE : Str := [84, 82, 85, 69]
def sFALSE : Str := [70, 65, 76, 83, 69]
def sCOUNT : Str := [67, 79, 85, 78, 84]
def sSUM : Str := [83, 85, 77]
def sMIN : Str := [77, 73, 78]
def sMAX : Str := [77, 65, 88]
def opsOr : List (Str × Int) := [(sOR, 17)]
def opsAnd : List (Str × Int) := [(sAND, 16)]
def opsCmp : List (Str × Int) := [([61], 10), ([60, 62], 11), ([60], 12), ([60, 61], 13), ([62], 14), ([62, 61], 15)]
def opsSum : List (Str × Int) := [([43], 5), ([45], 6)]
def opsProd : List (Str × Int) := [([42], 7), ([47], 8), ([37], 9)]
def chainP (part : Ptree) (k : Int) (ops : List (Str × Int)) : Ptree := fun ts =>
  match part ts with
  | none => none
  | some (x, ts') => chainL part k ops (ts'.length + 1) x ts'
def unP (k : Int) (part : Ptree) : Ptree := fun ts =>
  match part ts with
  | none => none
  | some (x, ts') => some (.un k x, ts')
/-- behind a sum: a comparison, IS NULL, IS NOT NULL, or nothing -/
def notTail (part : Ptree) (x : Ex) (ts : List Tok) : Option (Ex × List Tok) :=
  match pick 5 opsCmp ts with
  | some (k, r) =>
    match part r with
    | none => none
    | some (y, r') => some (.bin k x y, r')
  | none =>
    match nextT 1 sIS ts with
    | none => some (x, ts)
    | some r =>
      match nextT 1 sNOT r with
      | some r' =>
        match nextT 1 sNULL r' with
        | none => none
        | some r'' => some (.un 19 x, r'')
      | none =>
        match nextT 1 sNULL r with
        | none => none
        | some r'' => some (.un 18 x, r'')
def closeP (x : Ex) (ts : List Tok) : Option (Ex × List Tok) :=
  match nextT 5 [41] ts with
  | none => none
  | some r => some (x, r)
def aggr (w : Str) : Option Int := if w == sCOUNT then some 20 else if w == sSUM then some 21 else if w == sMIN then some 22 else if w == sMAX then some 23 else none
def keyP (part : Ptree) (w : Str) (r : List Tok) : Option (Ex × List Tok) :=
  if w == sTRUE then some (.val ⟨2, 1, []⟩, r)
  else if w == sFALSE then some (.val ⟨2, 0, []⟩, r)
  else if w == sNULL then some (.val ⟨0, 0, []⟩, r)
  else
    match aggr w with
    | none => none
    | some k =>
      match nextT 5 [40] r with
      | none => none
      | some r1 =>
        match (if w == sCOUNT then nextT 5 [42] r1 else none) with
        | some r2 => closeP .cnt r2
        | none =>
          match part r1 with
          | none => none
          | some (x, r2) => closeP (.un k x) r2
def atomP (part : Ptree) : Ptree
  | [] => none
  | t :: r =>
    if t.kind == 3 then some (.val ⟨1, t.num, []⟩, r)
    else if t.kind == 4 then some (.val ⟨3, 0, t.text⟩, r)
    else if t.kind == 2 then
      match nextT 5 [46] r with
      | none => some (.col [] t.text, r)
      | some r1 =>
        match r1 with
        | [] => none
        | u :: r2 => if u.kind == 2 then some (.col t.text u.text, r2) else none
    else if t.kind == 1 then keyP part t.text r
    else
      match nextT 5 [40] (t :: r) with
      | none => none
      | some r1 =>
        match part r1 with
        | none => none
        | some (x, r2) => closeP x r2
/-- with so much fuel, at a level: 0 OR, 1 AND, 2 NOT and comparisons, 3 sums, 4 products, 5 minus, 6 atoms -/
def pE : Nat → Nat → Ptree
  | 0, _ => fun _ => none
  | n + 1, 0 => chainP (pE n 1) 1 opsOr
  | n + 1, 1 => chainP (pE n 2) 1 opsAnd
  | n + 1, 2 => fun ts =>
    match nextT 1 sNOT ts with
    | some r => unP 4 (pE n 2) r
    | none =>
      match pE n 3 ts with
      | none => none
      | some (x, ts') => notTail (pE n 3) x ts'
  | n + 1, 3 => chainP (pE n 4) 5 opsSum
  | n + 1, 4 => chainP (pE n 5) 5 opsProd
  | n + 1, 5 => fun ts =>
    match nextT 5 [45] ts with
    | some r => unP 3 (pE n 5) r
    | none => pE n 6 ts
  | n + 1, _ => fun ts => atomP (pE n 0) ts
def pFull (ts : List Tok) : Option (Ex × List Tok) := pE (7 * ts.length + 7) 0 ts

/-! DELETE FROM t WHERE: what is read of such a text -/
def pre : Str := [100, 101, 108, 101, 116, 101, 32, 102, 114, 111, 109, 32, 116, 32, 119, 104, 101, 114, 101, 32]
def sDELETE : Str := [68, 69, 76, 69, 84, 69]
def sFROM : Str := [70, 82, 79, 77]
def sWHERE : Str := [87, 72, 69, 82, 69]
def endP (ts : List Tok) : Bool :=
  match nextT 5 [59] ts with
  | some r => r.isEmpty
  | none => ts.isEmpty
/-- the condition, if there is one and no more -/
def readL (text : Str) : Option Ex :=
  match lexS (pre ++ text) with
  | none => none
  | some ts =>
    match pFull (ts.drop 4) with
    | none => none
    | some (x, r) => if endP r && decide (x.hgt ≤ 32) then some x else none

/-! binding -/
def okV (v : Val) : Bool :=
  if v.kind == 0 then v.num == 0 && v.str.isEmpty
  else if v.kind == 1 then v.str.isEmpty
  else if v.kind == 2 then (v.num == 0 || v.num == 1) && v.str.isEmpty
  else v.kind == 3 && v.num == 0 && decide (v.str.length ≤ 64)
structure Bcol where
  tab : Str
  name : Str
  ty : Int
def Bcol.fits (c : Bcol) (t n : Str) : Bool := c.name == n && (t.isEmpty || c.tab == t)
/-- the places of the columns that fit -/
def places (t n : Str) : List Bcol → Nat → List (Nat × Int)
  | [], _ => []
  | c :: cs, i => if c.fits t n then (i, c.ty) :: places t n cs (i + 1) else places t n cs (i + 1)
def findL (t n : Str) (cs : List Bcol) : Option (Nat × Int) :=
  match places t n cs 0 with
  | [x] => some x
  | _ => none
def only (t : Int) (l : List Int) : Bool := l.all fun k => k == t || k == 0
def typedL (k : Int) (l : List Int) : Option Int :=
  if k == 3 || (decide (5 ≤ k) && decide (k ≤ 9)) then (if only 1 l then some 1 else none)
  else if k == 4 || k == 16 || k == 17 then (if only 2 l then some 2 else none)
  else if k == 18 || k == 19 then some 2
  else if only (max (l.getD 0 0) (l.getD 1 0)) l then some 2 else none
def unK (k : Int) : Bool := k == 3 || k == 4 || k == 18 || k == 19
def binK (k : Int) : Bool := decide (5 ≤ k) && decide (k ≤ 17)
def bindL (cs : List Bcol) : Ex → Option (Ex × Int)
  | .val v => if okV v then some (.val v, v.kind) else none
  | .col t n =>
    match findL t n cs with
    | none => none
    | some (i, ty) => some (.slot i, ty)
  | .slot _ => none
  | .cnt => none
  | .un k a =>
    if unK k then
      match bindL cs a with
      | none => none
      | some (y, t) =>
        match typedL k [t] with
        | none => none
        | some u => some (.un k y, u)
    else none
  | .bin k a b =>
    if binK k then
      match bindL cs a with
      | none => none
      | some (y, t) =>
        match bindL cs b with
        | none => none
        | some (z, s) =>
          match typedL k [t, s] with
          | none => none
          | some u => some (.bin k y z, u)
    else none
def cols4 : List Bcol := [⟨[116], [105, 100], 1⟩, ⟨[116], [97], 1⟩, ⟨[116], [98], 1⟩, ⟨[116], [99], 3⟩]
/-- the condition as it is read, and as it is bound: of type Bool, or NULL -/
def askedL (text : Str) : Option (Ex × Ex) :=
  match readL text with
  | none => none
  | some x =>
    match bindL cols4 x with
    | none => none
    | some (y, t) => if t == 2 || t == 0 then some (x, y) else none
end Go.Proofs.YtnbckfkdmkbopaaGreatDoor
