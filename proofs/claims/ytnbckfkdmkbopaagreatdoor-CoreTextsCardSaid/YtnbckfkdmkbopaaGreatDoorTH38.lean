/-
  The tokens of a printed tree are parsed into it again; what is read has leaves that can be printed, in plain Lean. No condition beyond each lemma's own.
-/
import Derived.Test.YtnbckfkdmkbopaaGreatDoorTH37
set_option autoImplicit false
namespace Go.Proofs.YtnbckfkdmkbopaaGreatDoor
open Go

/-! levels of the parser, at one atom -/
abbrev oT (c : Str) : Tok := ⟨5, c, 0⟩
abbrev wT (c : Str) : Tok := ⟨1, c, 0⟩
/-- the tokens A are an atom, whatever comes behind (but a point) -/
def AtomAt (B : Nat) (A : List Tok) (a : Ex) : Prop :=
  (∀ rest, nextT 5 [45] (A ++ rest) = none ∧ nextT 1 sNOT (A ++ rest) = none) ∧ ∀ m rest, B ≤ m → nextT 5 [46] rest = none → atomP (pE m 0) (A ++ rest) = some (a, rest)
theorem AtomAt.mono {B C : Nat} {A : List Tok} {a : Ex} (h : AtomAt B A a) (hb : B ≤ C) : AtomAt C A a := ⟨h.1, fun m rest hm => h.2 m rest (by omega)⟩
theorem chain_stop {part : Ptree} {k : Int} {ops : List (Str × Int)} {ts r : List Tok} {x : Ex} (h : part ts = some (x, r)) (hs : pick k ops r = none) : chainP part k ops ts = some (x, r) := by
  unfold chainP
  simp only [h]
  unfold chainL
  simp [hs]
theorem chain_one {part : Ptree} {k o : Int} {ops : List (Str × Int)} {ts r r1 r2 : List Tok} {x y : Ex} (h : part ts = some (x, r)) (hp : pick k ops r = some (o, r1)) (hy : part r1 = some (y, r2)) (hs : pick k ops r2 = none) (hl : 1 ≤ r.length) : chainP part k ops ts = some (.bin o x y, r2) := by
  unfold chainP
  simp only [h]
  obtain ⟨m, hm⟩ : ∃ m, r.length = m + 1 := ⟨r.length - 1, by omega⟩
  rw [hm]
  unfold chainL
  simp only [hp, hy]
  unfold chainL
  simp [hs]
theorem lev5 {B : Nat} {A : List Tok} {a : Ex} (h : AtomAt B A a) (m : Nat) (hm : B ≤ m) (rest : List Tok) (hd : nextT 5 [46] rest = none) : pE (m + 2) 5 (A ++ rest) = some (a, rest) := by
  simp only [pE]
  rw [(h.1 rest).1]
  exact h.2 m rest hm hd
theorem lev4 {B : Nat} {A : List Tok} {a : Ex} (h : AtomAt B A a) (m : Nat) (hm : B ≤ m) (rest : List Tok) (hd : nextT 5 [46] rest = none) (h4 : pick 5 opsProd rest = none) : pE (m + 3) 4 (A ++ rest) = some (a, rest) :=
  chain_stop (lev5 h m hm rest hd) h4
theorem lev3 {B : Nat} {A : List Tok} {a : Ex} (h : AtomAt B A a) (m : Nat) (hm : B ≤ m) (rest : List Tok) (hd : nextT 5 [46] rest = none) (h4 : pick 5 opsProd rest = none) (h3 : pick 5 opsSum rest = none) : pE (m + 4) 3 (A ++ rest) = some (a, rest) :=
  chain_stop (lev4 h m hm rest hd h4) h3
theorem lev2_of {n : Nat} {ts r : List Tok} {x : Ex} {o : Option (Ex × List Tok)} (hn : nextT 1 sNOT ts = none) (h : pE n 3 ts = some (x, r)) (ht : notTail (pE n 3) x r = o) : pE (n + 1) 2 ts = o := by
  simp only [pE]
  rw [hn]
  simp only [h]
  exact ht
theorem tail_stop {part : Ptree} {x : Ex} {r : List Tok} (h2 : pick 5 opsCmp r = none) (hi : nextT 1 sIS r = none) : notTail part x r = some (x, r) := by
  unfold notTail
  simp [h2, hi]
theorem lev2 {B : Nat} {A : List Tok} {a : Ex} (h : AtomAt B A a) (m : Nat) (hm : B ≤ m) (rest : List Tok) (hd : nextT 5 [46] rest = none) (h4 : pick 5 opsProd rest = none) (h3 : pick 5 opsSum rest = none) (h2 : pick 5 opsCmp rest = none) (hi : nextT 1 sIS rest = none) : pE (m + 5) 2 (A ++ rest) = some (a, rest) :=
  lev2_of (h.1 rest).2 (lev3 h m hm rest hd h4 h3) (tail_stop h2 hi)
/-- nothing that goes on stands there -/
structure Stops (rest : List Tok) : Prop where
  hd : nextT 5 [46] rest = none
  h4 : pick 5 opsProd rest = none
  h3 : pick 5 opsSum rest = none
  h2 : pick 5 opsCmp rest = none
  hi : nextT 1 sIS rest = none
  h1 : pick 1 opsAnd rest = none
  h0 : pick 1 opsOr rest = none
theorem stops_nil : Stops [] := ⟨rfl, rfl, rfl, rfl, rfl, rfl, rfl⟩
theorem stops_close (r : List Tok) : Stops (oT [41] :: r) := ⟨rfl, rfl, rfl, rfl, rfl, rfl, rfl⟩
theorem lev0 {B : Nat} {A : List Tok} {a : Ex} (h : AtomAt B A a) (m : Nat) (hm : B ≤ m) (rest : List Tok) (s : Stops rest) : pE (m + 7) 0 (A ++ rest) = some (a, rest) :=
  chain_stop (chain_stop (lev2 h m hm rest s.hd s.h4 s.h3 s.h2 s.hi) s.h1) s.h0
/-- the tokens A, whole, with such fuel -/
def Full (B : Nat) (A : List Tok) (x : Ex) : Prop := ∀ m rest, B ≤ m → Stops rest → pE m 0 (A ++ rest) = some (x, rest)
theorem Full.mono {B C : Nat} {A : List Tok} {a : Ex} (h : Full B A a) (hb : B ≤ C) : Full C A a := fun m rest hm => h m rest (by omega)
theorem full_atom {B : Nat} {A : List Tok} {a : Ex} (h : AtomAt B A a) : Full (B + 8) A a := fun m rest hm s => by
  obtain ⟨k, rfl⟩ : ∃ k, m = k + 7 := ⟨m - 7, by omega⟩
  exact lev0 h k (by omega) rest s
theorem atom_par {B : Nat} {A : List Tok} {a : Ex} (h : Full B A a) : AtomAt B (oT [40] :: (A ++ [oT [41]])) a := by
  refine ⟨fun rest => ⟨rfl, rfl⟩, fun m rest hm hd => ?_⟩
  have h1 := h m (oT [41] :: rest) hm (stops_close rest)
  have e : oT [40] :: (A ++ [oT [41]]) ++ rest = oT [40] :: (A ++ oT [41] :: rest) := by simp
  rw [e]
  show (match nextT 5 [40] (oT [40] :: (A ++ oT [41] :: rest)) with | none => none | some r1 => match pE m 0 r1 with | none => none | some (x, r2) => closeP x r2) = _
  rw [show nextT 5 [40] (oT [40] :: (A ++ oT [41] :: rest)) = some (A ++ oT [41] :: rest) from rfl]
  simp only [h1]
  rfl
theorem full_neg {B : Nat} {A : List Tok} {a : Ex} (h : AtomAt B A a) : Full (B + 8) (oT [45] :: A) (.un 3 a) := fun m rest hm s => by
  obtain ⟨k, rfl⟩ : ∃ k, m = k + 8 := ⟨m - 8, by omega⟩
  have h5 : pE (k + 3) 5 (oT [45] :: A ++ rest) = some (.un 3 a, rest) := by
    simp only [pE]
    rw [show nextT 5 [45] (oT [45] :: A ++ rest) = some (A ++ rest) from rfl]
    show unP 3 (pE (k + 2) 5) (A ++ rest) = _
    unfold unP
    rw [lev5 h k (by omega) rest s.hd]
  have h3 : pE (k + 5) 3 (oT [45] :: A ++ rest) = some (.un 3 a, rest) := chain_stop (chain_stop h5 s.h4) s.h3
  have h2 : pE (k + 6) 2 (oT [45] :: A ++ rest) = some (.un 3 a, rest) := lev2_of rfl h3 (tail_stop s.h2 s.hi)
  exact chain_stop (chain_stop h2 s.h1) s.h0
theorem full_not {B : Nat} {A : List Tok} {a : Ex} (h : AtomAt B A a) : Full (B + 8) (wT sNOT :: A) (.un 4 a) := fun m rest hm s => by
  obtain ⟨k, rfl⟩ : ∃ k, m = k + 8 := ⟨m - 8, by omega⟩
  have h2 : pE (k + 6) 2 (wT sNOT :: A ++ rest) = some (.un 4 a, rest) := by
    simp only [pE]
    rw [show nextT 1 sNOT (wT sNOT :: A ++ rest) = some (A ++ rest) from rfl]
    show unP 4 (pE (k + 5) 2) (A ++ rest) = _
    unfold unP
    rw [lev2 h k (by omega) rest s.hd s.h4 s.h3 s.h2 s.hi]
  exact chain_stop (chain_stop h2 s.h1) s.h0
theorem full_null {B : Nat} {A : List Tok} {a : Ex} (h : AtomAt B A a) : Full (B + 8) (A ++ [wT sIS, wT sNULL]) (.un 18 a) := fun m rest hm s => by
  obtain ⟨k, rfl⟩ : ∃ k, m = k + 7 := ⟨m - 7, by omega⟩
  rw [List.append_assoc]
  have h3 := lev3 h k (by omega) ([wT sIS, wT sNULL] ++ rest) rfl rfl rfl
  have h2 : pE (k + 5) 2 (A ++ ([wT sIS, wT sNULL] ++ rest)) = some (.un 18 a, rest) := lev2_of (h.1 _).2 h3 rfl
  exact chain_stop (chain_stop h2 s.h1) s.h0
theorem full_some {B : Nat} {A : List Tok} {a : Ex} (h : AtomAt B A a) : Full (B + 8) (A ++ [wT sIS, wT sNOT, wT sNULL]) (.un 19 a) := fun m rest hm s => by
  obtain ⟨k, rfl⟩ : ∃ k, m = k + 7 := ⟨m - 7, by omega⟩
  rw [List.append_assoc]
  have h3 := lev3 h k (by omega) ([wT sIS, wT sNOT, wT sNULL] ++ rest) rfl rfl rfl
  have h2 : pE (k + 5) 2 (A ++ ([wT sIS, wT sNOT, wT sNULL] ++ rest)) = some (.un 19 a, rest) := lev2_of (h.1 _).2 h3 rfl
  exact chain_stop (chain_stop h2 s.h1) s.h0
theorem full_prod {B : Nat} {A C : List Tok} {a c : Ex} (h : AtomAt B A a) (h' : AtomAt B C c) (k : Int) (t : Tok) (ht : ∀ r, nextT 5 [46] (t :: r) = none ∧ pick 5 opsProd (t :: r) = some (k, r)) : Full (B + 8) (A ++ t :: C) (.bin k a c) := fun m rest hm s => by
  obtain ⟨j, rfl⟩ : ∃ j, m = j + 7 := ⟨m - 7, by omega⟩
  rw [List.append_assoc, List.cons_append]
  have h4 : pE (j + 3) 4 (A ++ t :: (C ++ rest)) = some (.bin k a c, rest) := chain_one (lev5 h j (by omega) _ (ht _).1) (ht _).2 (lev5 h' j (by omega) rest s.hd) s.h4 (by simp)
  have h2 : pE (j + 5) 2 (A ++ t :: (C ++ rest)) = some (.bin k a c, rest) := lev2_of (h.1 _).2 (chain_stop h4 s.h3) (tail_stop s.h2 s.hi)
  exact chain_stop (chain_stop h2 s.h1) s.h0
theorem full_sum {B : Nat} {A C : List Tok} {a c : Ex} (h : AtomAt B A a) (h' : AtomAt B C c) (k : Int) (t : Tok) (ht : ∀ r, nextT 5 [46] (t :: r) = none ∧ pick 5 opsProd (t :: r) = none ∧ pick 5 opsSum (t :: r) = some (k, r)) : Full (B + 8) (A ++ t :: C) (.bin k a c) := fun m rest hm s => by
  obtain ⟨j, rfl⟩ : ∃ j, m = j + 7 := ⟨m - 7, by omega⟩
  rw [List.append_assoc, List.cons_append]
  have h3 : pE (j + 4) 3 (A ++ t :: (C ++ rest)) = some (.bin k a c, rest) := chain_one (lev4 h j (by omega) _ (ht _).1 (ht _).2.1) (ht _).2.2 (lev4 h' j (by omega) rest s.hd s.h4) s.h3 (by simp)
  have h2 : pE (j + 5) 2 (A ++ t :: (C ++ rest)) = some (.bin k a c, rest) := lev2_of (h.1 _).2 h3 (tail_stop s.h2 s.hi)
  exact chain_stop (chain_stop h2 s.h1) s.h0
theorem full_cmp {B : Nat} {A C : List Tok} {a c : Ex} (h : AtomAt B A a) (h' : AtomAt B C c) (k : Int) (t : Tok) (ht : ∀ r, nextT 5 [46] (t :: r) = none ∧ pick 5 opsProd (t :: r) = none ∧ pick 5 opsSum (t :: r) = none ∧ pick 5 opsCmp (t :: r) = some (k, r)) : Full (B + 8) (A ++ t :: C) (.bin k a c) := fun m rest hm s => by
  obtain ⟨j, rfl⟩ : ∃ j, m = j + 7 := ⟨m - 7, by omega⟩
  rw [List.append_assoc, List.cons_append]
  obtain ⟨t1, t2, t3, t4⟩ := ht (C ++ rest)
  have h3 := lev3 h j (by omega) (t :: (C ++ rest)) t1 t2 t3
  have h2 : pE (j + 5) 2 (A ++ t :: (C ++ rest)) = some (.bin k a c, rest) := lev2_of (h.1 _).2 h3 (by
    unfold notTail
    simp only [t4]
    rw [lev3 h' j (by omega) rest s.hd s.h4 s.h3])
  exact chain_stop (chain_stop h2 s.h1) s.h0
theorem full_and {B : Nat} {A C : List Tok} {a c : Ex} (h : AtomAt B A a) (h' : AtomAt B C c) : Full (B + 8) (A ++ wT sAND :: C) (.bin 16 a c) := fun m rest hm s => by
  obtain ⟨j, rfl⟩ : ∃ j, m = j + 7 := ⟨m - 7, by omega⟩
  rw [List.append_assoc, List.cons_append]
  exact chain_stop (chain_one (k := 1) (ops := opsAnd) (lev2 h j (by omega) (wT sAND :: (C ++ rest)) rfl rfl rfl rfl rfl) rfl (lev2 h' j (by omega) rest s.hd s.h4 s.h3 s.h2 s.hi) s.h1 (by simp)) s.h0
theorem full_or {B : Nat} {A C : List Tok} {a c : Ex} (h : AtomAt B A a) (h' : AtomAt B C c) : Full (B + 8) (A ++ wT sOR :: C) (.bin 17 a c) := fun m rest hm s => by
  obtain ⟨j, rfl⟩ : ∃ j, m = j + 7 := ⟨m - 7, by omega⟩
  rw [List.append_assoc, List.cons_append]
  exact chain_one (k := 1) (ops := opsOr) (chain_stop (lev2 h j (by omega) (wT sOR :: (C ++ rest)) rfl rfl rfl rfl rfl) rfl) rfl (chain_stop (lev2 h' j (by omega) rest s.hd s.h4 s.h3 s.h2 s.hi) s.h1) s.h0 (by simp)
/-! the whole tree -/
theorem atom_lit {v : Val} (h : LitOk v) : AtomAt 0 [litT v] (.val v) := by
  rcases h with rfl | ⟨n, hn, rfl⟩ | rfl | rfl | ⟨s, hs, rfl⟩
  · exact ⟨fun rest => ⟨rfl, rfl⟩, fun m rest _ _ => rfl⟩
  · exact ⟨fun rest => ⟨rfl, rfl⟩, fun m rest _ _ => rfl⟩
  · exact ⟨fun rest => ⟨rfl, rfl⟩, fun m rest _ _ => rfl⟩
  · exact ⟨fun rest => ⟨rfl, rfl⟩, fun m rest _ _ => rfl⟩
  · exact ⟨fun rest => ⟨rfl, rfl⟩, fun m rest _ _ => rfl⟩
theorem atom_col {t n : Str} (ht : t = [] ∨ NameOk t) : AtomAt 0 (toksL (.col t n)) (.col t n) := by
  rcases ht with rfl | ht
  · refine ⟨fun rest => ⟨rfl, rfl⟩, fun m rest _ hd => ?_⟩
    show (match nextT 5 [46] rest with | none => some (Ex.col [] n, rest) | some r1 => _) = _
    rw [hd]
  · have e : t.isEmpty = false := by cases t with | nil => exact absurd rfl ht.1 | cons _ _ => rfl
    simp only [toksL, e, Bool.false_eq_true, if_false]
    exact ⟨fun rest => ⟨rfl, rfl⟩, fun m rest _ _ => rfl⟩
theorem atom_opnd {x : Ex} (h : PrintOk x) (hx : x.leaf = false → Full (7 * (toksL x).length + 7) (toksL x) x) : ∃ B, AtomAt B (parT x.leaf (toksL x)) x ∧ B + 8 ≤ 7 * (parT x.leaf (toksL x)).length + 14 ∧ 1 ≤ (parT x.leaf (toksL x)).length := by
  cases x with
  | val v => exact ⟨0, atom_lit h, by omega, Nat.le_refl _⟩
  | col t n =>
    refine ⟨0, atom_col h.1, by omega, ?_⟩
    show 1 ≤ (toksL (.col t n)).length
    simp only [toksL]
    split <;> simp
  | slot _ => exact h.elim
  | cnt => exact h.elim
  | un k a =>
    refine ⟨_, atom_par (hx rfl), ?_, ?_⟩
    · show _ ≤ 7 * (oT [40] :: (toksL (.un k a) ++ [oT [41]])).length + 14
      simp only [List.length_cons, List.length_append, List.length_nil]; omega
    · show 1 ≤ (oT [40] :: (toksL (.un k a) ++ [oT [41]])).length
      simp
  | bin k a b =>
    refine ⟨_, atom_par (hx rfl), ?_, ?_⟩
    · show _ ≤ 7 * (oT [40] :: (toksL (.bin k a b) ++ [oT [41]])).length + 14
      simp only [List.length_cons, List.length_append, List.length_nil]; omega
    · show 1 ≤ (oT [40] :: (toksL (.bin k a b) ++ [oT [41]])).length
      simp
theorem parse_print : ∀ x : Ex, PrintOk x → Full (7 * (toksL x).length + 7) (toksL x) x
  | .val v, h => (full_atom (atom_lit h)).mono (by show 8 ≤ 7 * 1 + 7; omega)
  | .col t n, h => (full_atom (atom_col h.1)).mono (by simp only [toksL]; split <;> simp)
  | .slot _, h => h.elim
  | .cnt, h => h.elim
  | .un k a, ⟨hk, ha⟩ => by
    obtain ⟨B, hA, hB, _⟩ := atom_opnd ha (fun _ => parse_print a ha)
    rcases hk with rfl | rfl | rfl | rfl
    · exact (full_neg hA).mono (by show _ ≤ 7 * (oT [45] :: parT a.leaf (toksL a)).length + 7; rw [List.length_cons]; omega)
    · exact (full_not hA).mono (by show _ ≤ 7 * (wT sNOT :: parT a.leaf (toksL a)).length + 7; rw [List.length_cons]; omega)
    · exact (full_null hA).mono (by show _ ≤ 7 * (parT a.leaf (toksL a) ++ [wT sIS, wT sNULL]).length + 7; rw [List.length_append]; simp only [List.length_cons, List.length_nil]; omega)
    · exact (full_some hA).mono (by show _ ≤ 7 * (parT a.leaf (toksL a) ++ [wT sIS, wT sNOT, wT sNULL]).length + 7; rw [List.length_append]; simp only [List.length_cons, List.length_nil]; omega)
  | .bin k a b, ⟨hk, ha, hb⟩ => by
    obtain ⟨B1, hA1, hB1, g1⟩ := atom_opnd ha (fun _ => parse_print a ha)
    obtain ⟨B2, hA2, hB2, g2⟩ := atom_opnd hb (fun _ => parse_print b hb)
    have hA := hA1.mono (Nat.le_max_left B1 B2)
    have hC := hA2.mono (Nat.le_max_right B1 B2)
    show Full (7 * (parT a.leaf (toksL a) ++ opT k :: parT b.leaf (toksL b)).length + 7) (parT a.leaf (toksL a) ++ opT k :: parT b.leaf (toksL b)) _
    have hl : max B1 B2 + 8 ≤ 7 * (parT a.leaf (toksL a) ++ opT k :: parT b.leaf (toksL b)).length + 7 := by rw [List.length_append, List.length_cons]; omega
    rcases op_cases hk with rfl | rfl | rfl | rfl | rfl | rfl | rfl | rfl | rfl | rfl | rfl | rfl | rfl
    · exact (full_sum hA hC 5 (opT 5) fun r => ⟨rfl, rfl, rfl⟩).mono hl
    · exact (full_sum hA hC 6 (opT 6) fun r => ⟨rfl, rfl, rfl⟩).mono hl
    · exact (full_prod hA hC 7 (opT 7) fun r => ⟨rfl, rfl⟩).mono hl
    · exact (full_prod hA hC 8 (opT 8) fun r => ⟨rfl, rfl⟩).mono hl
    · exact (full_prod hA hC 9 (opT 9) fun r => ⟨rfl, rfl⟩).mono hl
    · exact (full_cmp hA hC 10 (opT 10) fun r => ⟨rfl, rfl, rfl, rfl⟩).mono hl
    · exact (full_cmp hA hC 11 (opT 11) fun r => ⟨rfl, rfl, rfl, rfl⟩).mono hl
    · exact (full_cmp hA hC 12 (opT 12) fun r => ⟨rfl, rfl, rfl, rfl⟩).mono hl
    · exact (full_cmp hA hC 13 (opT 13) fun r => ⟨rfl, rfl, rfl, rfl⟩).mono hl
    · exact (full_cmp hA hC 14 (opT 14) fun r => ⟨rfl, rfl, rfl, rfl⟩).mono hl
    · exact (full_cmp hA hC 15 (opT 15) fun r => ⟨rfl, rfl, rfl, rfl⟩).mono hl
    · exact (full_and hA hC).mono hl
    · exact (full_or hA hC).mono hl
end Go.Proofs.YtnbckfkdmkbopaaGreatDoor
