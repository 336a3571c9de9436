/-
  The book of transactions in memory, and what State, Begin, end and Sees do. No condition beyond each lemma's own.
-/
import Derived.Test.YtkneldeemlngkaaProg
import Derived.Test.YtkneldeemlngkaaMaps
import Derived.Test.YtkneldeemlngkaaLex
import Derived.WalkLawsBesides
import Derived.WalkSpells
import Derived.BigQuiet
import Derived.Lib.Hide
import Derived.MapKept
set_option autoImplicit false
namespace Go.Proofs.Ytkneldeemlngkaa
open Go Go.RowKit

abbrev Ent := Int × Int × Int
def entV (e : Ent) : Value := .agg #[.int .i64 e.1, .int .i64 e.2.1, .int .i64 e.2.2]
structure Bk where
  next : Int
  most : Int
  step : Int
  first : Int
  all : Int → Option Ent
def Bk.get (B : Bk) (t : Int) : Ent := (B.all t).getD (0, 0, 0)
def eupd (f : Int → Option Ent) (n : Int) (e : Ent) (k : Int) : Option Ent := if k = n then some e else f k
structure MapEnt (es : Array MapEntry) (c : Nat) (f : Int → Option Ent) : Prop where
  keys : KeysTy (.int .i64) es.toList
  look : ∀ k, mfind es.toList (.int .i64 k) = (f k).map entV
  stamped : MapKept.Stamped es c
structure Bk.ok (B : Bk) : Prop where
  n1 : 1 ≤ B.next
  n2 : B.next ≤ B.most + 1
  m1 : B.most ≤ 16777216
  s0 : 0 ≤ B.step
  f1 : 1 ≤ B.first
  f2 : B.first ≤ B.next
  dom : ∀ k e, B.all k = some e → 1 ≤ k ∧ k < B.next
structure BookIn (w : World) (r : Nat) (F : Nat → Prop) (B : Bk) (mb : Nat) (es : Array MapEntry) (c : Nat) : Prop where
  self : w.heap[r]? = some (.cells #[.int .i64 B.next, .int .i64 B.most, .int .i64 B.step, .map (some mb), .int .i64 B.first] 57 (0, 0))
  map : w.heap[mb]? = some (.map es c)
  is : MapEnt es c B.all
  fr : F r
  fm : F mb
  ok : B.ok
def BookAt (w : World) (r : Nat) (F : Nat → Prop) (B : Bk) : Prop := ∃ mb es c, BookIn w r F B mb es c
section
variable {w w' : World} {r : Nat} {F G : Nat → Prop} {B : Bk} {mb : Nat} {es : Array MapEntry} {c : Nat}
theorem BookIn.ne (h : BookIn w r F B mb es c) : mb ≠ r := by
  intro e
  subst e
  have := h.self
  rw [h.map] at this
  simp at this
theorem BookIn.chg (h : BookIn w r F B mb es c) (x : Chg G w w') (hd : ∀ k, F k → ¬ G k) : BookIn w' r F B mb es c :=
  ⟨x.heap h.self (hd _ h.fr), x.heap h.map (hd _ h.fm), h.is, h.fr, h.fm, h.ok⟩
theorem BookAt.chg (h : BookAt w r F B) (x : Chg G w w') (hd : ∀ k, F k → ¬ G k) : BookAt w' r F B := by
  obtain ⟨mb, es, c, h⟩ := h
  exact ⟨mb, es, c, h.chg x hd⟩
theorem BookAt.quiet (h : BookAt w r F B) (x : Chg (fun _ => False) w w') : BookAt w' r F B := h.chg x (fun _ _ h => h)
theorem BookIn.mono (h : BookIn w r F B mb es c) (hG : ∀ k, F k → k < w.heap.size → G k) : BookIn w r G B mb es c :=
  ⟨h.self, h.map, h.is, hG _ h.fr (lt_of_heap h.self), hG _ h.fm (lt_of_heap h.map), h.ok⟩
theorem BookAt.mono (h : BookAt w r F B) (hG : ∀ k, F k → k < w.heap.size → G k) : BookAt w r G B := by
  obtain ⟨mb, es, c, h⟩ := h
  exact ⟨mb, es, c, h.mono hG⟩
theorem BookAt.ok (h : BookAt w r F B) : B.ok := by
  obtain ⟨mb, es, c, h⟩ := h
  exact h.ok
theorem BookIn.cells (h : BookIn w r F B mb es c) :
    w.cell? ⟨r, 0, none⟩ = some (.int .i64 B.next) ∧ w.cell? ⟨r, 1, none⟩ = some (.int .i64 B.most) ∧ w.cell? ⟨r, 2, none⟩ = some (.int .i64 B.step) ∧ w.cell? ⟨r, 3, none⟩ = some (.map (some mb)) ∧
    w.cell? ⟨r, 4, none⟩ = some (.int .i64 B.first) ∧ r < w.heap.size :=
  ⟨cell_of_row w r 0 _ _ _ h.self, cell_of_row w r 1 _ _ _ h.self, cell_of_row w r 2 _ _ _ h.self, cell_of_row w r 3 _ _ _ h.self, cell_of_row w r 4 _ _ _ h.self, lt_of_heap h.self⟩
theorem BookIn.free (h : BookIn w r F B mb es c) (o : Nat) : w.frozen? ⟨r, o, none⟩ = false := frozen_of_row w r o _ _ h.self
end
theorem zero_ent (w : World) : (zeroValue 59).run Try.prog w = .ok (entV (0, 0, 0)) w := by kernel_rfl
theorem MapEnt.at_ {es : Array MapEntry} {c : Nat} {f : Int → Option Ent} (h : MapEnt es c f) (k : Int) {w : World} {b c' : Nat} (hb : w.heap[b]? = some (.map es c')) :
    (Instr.lookup 55 (.map (some b)) (.int .i64 k) false).run Try.prog w = .ok (entV ((f k).getD (0, 0, 0))) w := by
  rw [run_lookup w Try.underlying55 Try.underlying3 (by rfl) hb h.keys zero_ent false, h.look]
  cases f k <;> rfl
theorem MapEnt.at_ok {es : Array MapEntry} {c : Nat} {f : Int → Option Ent} (h : MapEnt es c f) (k : Int) {w : World} {b c' : Nat} (hb : w.heap[b]? = some (.map es c')) :
    (Instr.lookup 55 (.map (some b)) (.int .i64 k) true).run Try.prog w = .ok (.tuple #[entV ((f k).getD (0, 0, 0)), .bool (f k).isSome]) w := by
  rw [run_lookup w Try.underlying55 Try.underlying3 (by rfl) hb h.keys zero_ent true, h.look]
  cases f k <;> rfl
theorem stamped_mput {d : TypeDesc} {es : Array MapEntry} {c : Nat} {k v : Value} (hk : KeyTy d k) (h : MapKept.Stamped es c) : MapKept.Stamped (mput es c k v) (mclock es c k) := by
  unfold mput mclock
  cases hf : es.toList.findIdx? (fun e => kmatch k e.key) with
  | none =>
    simp only
    refine MapKept.stamped_push h (fun x hx e => ?_)
    have := List.findIdx?_eq_none_iff.1 hf x hx
    rw [e, kmatch_self hk] at this
    cases this
  | some i =>
    simp only
    refine MapKept.stamped_modify h i _ (fun _ _ => rfl) (fun e _ he => ?_)
    obtain ⟨hlt, hm, _⟩ := List.findIdx?_eq_some_iff_getElem.1 hf
    have hj : es[i]? = some es.toList[i] := by simp
    rw [hj] at he
    obtain rfl := Option.some.inj he
    exact kmatch_eq hm
theorem MapEnt.put {es : Array MapEntry} {c : Nat} {f : Int → Option Ent} (h : MapEnt es c f) (n : Int) (e : Ent) : MapEnt (mput es c (.int .i64 n) (entV e)) (mclock es c (.int .i64 n)) (eupd f n e) := by
  refine ⟨mput_keys (by rfl) h.keys, fun k => ?_, stamped_mput (d := .int .i64) (by rfl) h.stamped⟩
  rw [mfind_mput (d := .int .i64) (by rfl), kmatch_int]
  unfold eupd
  by_cases hk : k = n
  · simp [hk]
  · simp [hk, h.look k]

/-! what the book tells -/
def Bk.state (B : Bk) (t : Int) : Int := if t < 1 ∨ B.next ≤ t then 0 else match B.all t with
  | some e => e.1
  | none => 3
theorem state_nil (t : Int) (w : World) : Calls Try.prog 25 #[.pointer none, .int .i64 t] w fun e w' => e = .returned (.int .i64 0) ∧ w = w' := by
  go_enter Try.func25, Try.ntmps25
  go_wp2
  go_ret
  exact ⟨rfl, rfl⟩
set_option maxRecDepth 100000 in
theorem state_any (r : Nat) (F : Nat → Prop) (B : Bk) (w : World) (t : Int) (h : BookAt w r F B) : Calls Try.prog 25 #[.pointer (some ⟨r, 0, none⟩), .int .i64 t] w fun e w' => e = .returned (.int .i64 (B.state t)) ∧ Chg (fun _ => False) w w' := by
  obtain ⟨mb, es, c, h⟩ := h
  obtain ⟨c0, c1, c2, c3, c4, c5⟩ := h.cells
  have hst : ∀ x, B.state t = x → Hid (B.state t = x) := fun x h => Lib.hid h
  by_cases h1 : t < 1
  · have HS := hst 0 (by unfold Bk.state; rw [if_pos (.inl h1)])
    rw [HS.out]
    clear HS hst h
    go_enter Try.func25, Try.ntmps25
    go_wp2
    go_ret
    exact ⟨rfl, Chg.refl _ _⟩
  · by_cases h2 : B.next ≤ t
    · have HS := hst 0 (by unfold Bk.state; rw [if_pos (.inr h2)])
      rw [HS.out]
      clear HS hst h
      generalize B.next = nx at *
      go_enter Try.func25, Try.ntmps25
      go_wp2
      go_ret
      exact ⟨rfl, Chg.refl _ _⟩
    · have hl := h.is.at_ok t h.map
      cases hb : B.all t with
      | none =>
        have HS := hst 3 (by unfold Bk.state; rw [if_neg (by omega), hb])
        rw [HS.out]
        rw [hb] at hl
        simp only [Option.getD_none, Option.isSome_none, entV] at hl
        clear HS hst h hb
        generalize B.next = nx at *
        go_enter Try.func25, Try.ntmps25
        go_wp2
        go_ret
        exact ⟨rfl, (Chg.refl _ _).alloc _⟩
      | some e =>
        have HS := hst e.1 (by unfold Bk.state; rw [if_neg (by omega), hb])
        rw [HS.out]
        rw [hb] at hl
        simp only [Option.getD_some, Option.isSome_some, entV] at hl
        clear HS hst h hb
        obtain ⟨e0, e1, e2⟩ := e
        generalize B.next = nx at *
        go_enter Try.func25, Try.ntmps25
        go_wp2
        go_ret
        exact ⟨rfl, (Chg.refl _ _).alloc _⟩
end Go.Proofs.Ytkneldeemlngkaa
