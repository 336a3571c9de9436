/-
  How tokens, values and trees lie in memory. No condition beyond each lemma's own.
-/
import Derived.Test.YtnbckfkdmkbopaaGreatDoorTH03
import Derived.Lib.Space
set_option autoImplicit false
namespace Go.Proofs.YtnbckfkdmkbopaaGreatDoor
open Go Go.RowKit

abbrev sv (l : Str) : Value := .string ⟨l.toArray⟩
abbrev NoB : Nat → Prop := fun _ => False
/-! what the library's own variables hold -/
structure Glob (w : World) : Prop where
  mx : ∃ m, w.cell? ⟨3, 0, none⟩ = some (.int .i64 m)
  sp : ∀ c : Nat, c < 256 → w.cell? ⟨2, c, none⟩ = some (.int .u8 (if Lib.isSp (UInt8.ofNat c) then 1 else 0))
theorem lt_of_cell {w : World} {b o : Nat} {v : Value} (h : w.cell? ⟨b, o, none⟩ = some v) : b < w.heap.size := by
  rcases Nat.lt_or_ge b w.heap.size with h1 | h1
  · exact h1
  · exfalso
    have : w.heap[b]? = none := Array.getElem?_eq_none_iff.2 h1
    simp [World.cell?, this] at h
theorem Glob.chg {w w' : World} {F : Nat → Prop} (h : Glob w) (c : Chg F w w') (hF : ∀ k, F k → 10 ≤ k) : Glob w' := by
  have hk : ∀ b o v, b < 10 → w.cell? ⟨b, o, none⟩ = some v → w'.cell? ⟨b, o, none⟩ = some v := fun b o v hb hc =>
    (cell_of_heap (c.keep b (lt_of_cell hc) (fun hf => by have := hF b hf; omega))).trans hc
  refine ⟨?_, fun c hc => hk _ _ _ (by decide) (h.sp c hc)⟩
  obtain ⟨m, hm⟩ := h.mx
  exact ⟨m, hk _ _ _ (by decide) hm⟩
theorem Glob.quiet {w w' : World} (h : Glob w) (c : Chg NoB w w') : Glob w' := h.chg c (fun _ h => h.elim)
theorem Glob.drew {w : World} (h : Glob w) : Glob w.drew := h.quiet (Chg.refl _ _).drew
theorem Chg.glob {w w' : World} {p : Nat} (c : Chg (fun k => k = p) w w') (hp : 10 ≤ p) (h : Glob w) : Glob w' := h.chg c (fun k hk => by omega)

/-! tokens -/
def Tok.cells (t : Tok) : List Value := [.int .i64 t.kind, sv t.text, .int .i64 t.num]
def tokCells (ts : List Tok) : List Value := ts.flatMap Tok.cells
theorem Tok.len (t : Tok) : t.cells.length = 3 := rfl
theorem tokCells_len (ts : List Tok) : (tokCells ts).length = ts.length * 3 := flatMap_len _ _ _ fun x _ => x.len
theorem tokCells_one (ts : List Tok) : ∀ u ∈ tokCells ts, u.oneCell' = true := by
  intro u hu
  obtain ⟨c, _, hc⟩ := List.mem_flatMap.1 hu
  simp [Tok.cells] at hc
  rcases hc with rfl | rfl | rfl <;> rfl
abbrev ToksAt (w : World) (F : Nat → Prop) (v : Value) (ts : List Tok) : Prop := RowAt w F v ts.length (tokCells ts)
/-- the first token's three cells -/
theorem ToksAt.head {w : World} {F : Nat → Prop} {t : Tok} {ts : List Tok} {v : Value} (h : ToksAt w F v (t :: ts)) :
    ∃ b o c, v = .slice (some ⟨b, o, none⟩) (ts.length + 1) c ∧ b < w.heap.size ∧ F b ∧ w.rangeAt b o t.cells ∧ w.rangeAt b (o + 3) (tokCells ts) := by
  obtain ⟨ao, cap, rfl, hp⟩ := h
  obtain ⟨b, o, rfl, hb, hf, hr⟩ := hp (by simp)
  exact ⟨b, o, cap, rfl, hb, hf, range_left hr, range_add hr rfl⟩
theorem ToksAt.nil {w : World} {F : Nat → Prop} {v : Value} (h : ToksAt w F v []) : ∃ ao c, v = .slice ao 0 c := by
  obtain ⟨ao, cap, rfl, _⟩ := h
  exact ⟨ao, cap, rfl⟩

/-! values -/
def Val.cells (v : Val) : List Value := [.int .i64 v.kind, .int .i64 v.num, sv v.str]
theorem Val.len (v : Val) : v.cells.length = 3 := rfl
theorem Val.one (v : Val) : ∀ u ∈ v.cells, u.oneCell' = true := by
  intro u hu
  simp [Val.cells] at hu
  rcases hu with rfl | rfl | rfl <;> rfl
abbrev Val.val (v : Val) : Value := .agg #[.int .i64 v.kind, .int .i64 v.num, sv v.str]
def valCells (vs : List Val) : List Value := vs.flatMap Val.cells
theorem valCells_len (vs : List Val) : (valCells vs).length = vs.length * 3 := flatMap_len _ _ _ fun x _ => x.len
theorem valCells_one (vs : List Val) : ∀ u ∈ valCells vs, u.oneCell' = true := by
  intro u hu
  obtain ⟨c, _, hc⟩ := List.mem_flatMap.1 hu
  exact c.one u hc
abbrev ValsAt (w : World) (F : Nat → Prop) (v : Value) (vs : List Val) : Prop := RowAt w F v vs.length (valCells vs)

/-! trees -/
/-- an expression's cells -/
structure ExF where
  k : Int
  vk : Int
  vn : Int
  vs : Str
  t : Str
  n : Str
  s : Int
  ao : Option Addr
  m : Nat
  c : Nat
abbrev ExF.cells (E : ExF) : List Value := [.int .i64 E.k, .int .i64 E.vk, .int .i64 E.vn, sv E.vs, sv E.t, sv E.n, .int .i64 E.s, .slice E.ao E.m E.c]
abbrev ExF.val (E : ExF) : Value := .agg #[.int .i64 E.k, .int .i64 E.vk, .int .i64 E.vn, sv E.vs, sv E.t, sv E.n, .int .i64 E.s, .slice E.ao E.m E.c]
abbrev ExF.obj (E : ExF) : Obj := .cells #[.int .i64 E.k, .int .i64 E.vk, .int .i64 E.vn, sv E.vs, sv E.t, sv E.n, .int .i64 E.s, .slice E.ao E.m E.c] 29 (0, 0)
abbrev nilS : Value := .slice none 0 0
theorem ExF.one (E : ExF) : ∀ u ∈ E.cells, u.oneCell' = true := by
  intro u hu
  simp at hu
  rcases hu with rfl | rfl | rfl | rfl | rfl | rfl | rfl | rfl <;> rfl
def ExAt (w : World) (F : Nat → Prop) : Ex → ExF → Prop
  | .val v, E => E = ⟨1, v.kind, v.num, v.str, [], [], 0, none, 0, 0⟩
  | .col t n, E => E = ⟨2, 0, 0, [], t, n, 0, none, 0, 0⟩
  | .slot n, E => E = ⟨24, 0, 0, [], [], [], n, none, 0, 0⟩
  | .cnt, E => E = ⟨20, 0, 0, [], [], [], 0, none, 0, 0⟩
  | .un k a, E => ∃ b c A, E = ⟨k, 0, 0, [], [], [], 0, some ⟨b, 0, none⟩, 1, c⟩ ∧ b < w.heap.size ∧ F b ∧ w.rangeAt b 0 (ExF.cells A) ∧ ExAt w F a A
  | .bin k x y, E => ∃ b c A B, E = ⟨k, 0, 0, [], [], [], 0, some ⟨b, 0, none⟩, 2, c⟩ ∧ b < w.heap.size ∧ F b ∧ w.rangeAt b 0 (ExF.cells A ++ ExF.cells B) ∧ ExAt w F x A ∧ ExAt w F y B
theorem ExAt.chg {w w' : World} {F G : Nat → Prop} (c : Chg G w w') (hd : ∀ k, F k → ¬ G k) : ∀ (x : Ex) (E : ExF), ExAt w F x E → ExAt w' F x E
  | .val _, _, h => h
  | .col _ _, _, h => h
  | .slot _, _, h => h
  | .cnt, _, h => h
  | .un _ a, _, ⟨b, q, A, e, hb, hf, hr, ha⟩ => ⟨b, q, A, e, Nat.lt_of_lt_of_le hb c.size, hf, range_of_heap (c.keep b hb (hd b hf)) hr, ExAt.chg c hd a A ha⟩
  | .bin _ x y, _, ⟨b, q, A, B, e, hb, hf, hr, ha, hc⟩ => ⟨b, q, A, B, e, Nat.lt_of_lt_of_le hb c.size, hf, range_of_heap (c.keep b hb (hd b hf)) hr, ExAt.chg c hd x A ha, ExAt.chg c hd y B hc⟩
theorem ExAt.mono {w : World} {F G : Nat → Prop} (hG : ∀ k, F k → k < w.heap.size → G k) : ∀ (x : Ex) (E : ExF), ExAt w F x E → ExAt w G x E
  | .val _, _, h => h
  | .col _ _, _, h => h
  | .slot _, _, h => h
  | .cnt, _, h => h
  | .un _ a, _, ⟨b, q, A, e, hb, hf, hr, ha⟩ => ⟨b, q, A, e, hb, hG b hf hb, hr, ExAt.mono hG a A ha⟩
  | .bin _ x y, _, ⟨b, q, A, B, e, hb, hf, hr, ha, hc⟩ => ⟨b, q, A, B, e, hb, hG b hf hb, hr, ExAt.mono hG x A ha, ExAt.mono hG y B hc⟩
theorem ExAt.quiet {w w' : World} {F : Nat → Prop} (c : Chg NoB w w') {x : Ex} {E : ExF} (h : ExAt w F x E) : ExAt w' F x E := ExAt.chg c (fun _ _ h => h) x E h
/-- whatever tree: the first cell is its kind -/
theorem ExAt.kind {w : World} {F : Nat → Prop} {x : Ex} {E : ExF} (h : ExAt w F x E) : E.k = x.kind := by
  cases x with
  | val v => subst h; rfl
  | col t n => subst h; rfl
  | slot n => subst h; rfl
  | cnt => subst h; rfl
  | un k a => obtain ⟨b, q, A, rfl, _⟩ := h; rfl
  | bin k x y => obtain ⟨b, q, A, B, rfl, _⟩ := h; rfl

/-! quiet calls, inside a region that draws -/
theorem quiet_g {P : Program} {f : FuncId} {args : Array Value} {w0 W : World} {v : Value} (hW : ∃ n, W = w0.drewN n) (h : Calls P f args W fun e w' => e = .returned v ∧ W = w') :
    Calls P f args W fun e w'' => e = .returned v ∧ ∃ m, w'' = w0.drewN m := by
  obtain ⟨n, rfl⟩ := hW
  exact h.mono fun _ _ ⟨he, hm⟩ => ⟨he, n, hm.symm⟩

/-! strings -/
theorem ba_get {l : Str} {j : Nat} {x : UInt8} (h : l[j]? = some x) (hb : j < (ByteArray.mk l.toArray).size) : (ByteArray.mk l.toArray)[j]'hb = x := by
  obtain ⟨hj, hx⟩ := List.getElem?_eq_some_iff.1 h
  exact hx
theorem bytes_eq (a b : Str) : ((⟨a.toArray⟩ : ByteArray) == ⟨b.toArray⟩) = (a == b) := by
  rw [Bool.eq_iff_iff, bytesBeq]
  constructor
  · intro h
    have : a.toArray = b.toArray := congrArg ByteArray.data h
    have := congrArg Array.toList this
    simpa using this
  · intro h
    have : a = b := by simpa using h
    rw [this]
end Go.Proofs.YtnbckfkdmkbopaaGreatDoor
