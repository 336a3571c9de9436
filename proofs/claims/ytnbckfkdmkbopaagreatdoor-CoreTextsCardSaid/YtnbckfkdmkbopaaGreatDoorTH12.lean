/-
  The parser's keyword: COUNT, SUM, MIN, MAX. No condition beyond each lemma's own.
-/
import Derived.Test.YtnbckfkdmkbopaaGreatDoorTH11
set_option autoImplicit false
namespace Go.Proofs.YtnbckfkdmkbopaaGreatDoor
open Go Go.RowKit

abbrev zeroE : ExF := ⟨0, 0, 0, [], [], [], 0, none, 0, 0⟩
abbrev cntE : ExF := ⟨20, 0, 0, [], [], [], 0, none, 0, 0⟩
/-- the words that stand in the map, by the operation that puts them there -/
def kwAt : Nat → Option (Str × Int)
  | 1 => some (sCOUNT, 20)
  | 2 => some (sSUM, 21)
  | 3 => some (sMIN, 22)
  | 4 => some (sMAX, 23)
  | _ => none
/-- a map that holds the words that have been put there -/
structure KwMap (L : Nat → Bool) (es : Array MapEntry) : Prop where
  keys : KeysTy .string es.toList
  at_ : ∀ j s v, kwAt j = some (s, v) → L j = true → mfind es.toList (sv s) = some (.int .i64 v)
theorem KwMap.put {L : Nat → Bool} {es : Array MapEntry} (h : KwMap L es) {i : Nat} {s : Str} {v : Int} (hi : kwAt i = some (s, v)) (c : Nat) : KwMap (did L i) (mput es c (sv s) (.int .i64 v)) := by
  refine ⟨mput_keys (by trivial) h.keys, fun j s' v' hj hL => ?_⟩
  rw [mfind_mput (d := .string) (by trivial)]
  have hinj : ∀ i j s v v', kwAt i = some (s, v) → kwAt j = some (s, v') → v = v' := by
    intro i j s v v' h1 h2
    unfold kwAt at h1 h2
    split at h1 <;> split at h2 <;> simp at h1 h2 <;> (obtain ⟨rfl, rfl⟩ := h1; obtain ⟨h, rfl⟩ := h2; first | rfl | (exfalso; revert h; decide))
  by_cases hs : s' = s
  · subst hs
    have : kmatch (sv s') (sv s') = true := kmatch_self (d := .string) trivial
    rw [if_pos this, hinj i j s' v v' hi hj]
  · have hk : kmatch (sv s') (sv s) = false := by
      show ((⟨s'.toArray⟩ : ByteArray) == ⟨s.toArray⟩) = false
      rw [bytes_eq]
      simpa using hs
    rw [hk, if_neg (by simp)]
    by_cases hji : j = i
    · subst hji
      rw [hi] at hj
      simp at hj
      exact absurd hj.1.symm hs
    · rw [did_ne L hji] at hL
      exact h.at_ j s' v' hj hL
theorem KwMap.other {L : Nat → Bool} {es : Array MapEntry} (h : KwMap L es) {i : Nat} (hi : kwAt i = none) : KwMap (did L i) es :=
  ⟨h.keys, fun j s v hj hL => h.at_ j s v hj (by
    by_cases hji : j = i
    · subst hji; rw [hi] at hj; cases hj
    · rw [did_ne L hji] at hL; exact hL)⟩
theorem KwMap.nil {L : Nat → Bool} (h : ∀ j s v, kwAt j = some (s, v) → L j = false) : KwMap L #[] :=
  ⟨fun e he => by simp at he, fun j s v hj hL => by rw [h j s v hj] at hL; cases hL⟩
theorem cell_map {w : World} {b o c : Nat} {es : Array MapEntry} (h : w.heap[b]? = some (.map es c)) : w.cell? ⟨b, o, none⟩ = none := by
  simp [World.cell?, h]
/-- a tree lies in no map -/
theorem ExAt.nomap {w : World} {F : Nat → Prop} {mb c : Nat} {es : Array MapEntry} (h : w.heap[mb]? = some (.map es c)) : ∀ (x : Ex) (E : ExF), ExAt w F x E → ExAt w (fun q => F q ∧ q ≠ mb) x E
  | .val _, _, h => h
  | .col _ _, _, h => h
  | .slot _, _, h => h
  | .cnt, _, h => h
  | .un _ a, _, ⟨b, q, A, e, hb, hf, hr, ha⟩ => ⟨b, q, A, e, hb, ⟨hf, fun e => by
      subst e
      have := hr 0 _ rfl
      rw [cell_map h] at this
      cases this⟩, hr, ExAt.nomap h a A ha⟩
  | .bin _ x y, _, ⟨b, q, A, B, e, hb, hf, hr, ha, hc⟩ => ⟨b, q, A, B, e, hb, ⟨hf, fun e => by
      subst e
      have := hr 0 _ rfl
      rw [cell_map h] at this
      cases this⟩, hr, ExAt.nomap h x A ha, ExAt.nomap h y B hc⟩
/-- what holds when so many operations of the region are done -/
structure AggI (g : Ptree) (p tb xb : Nat) (w : World) (tt : Str) (k : Int) (r1 : List Tok) (L : Nat → Bool) (m38 m39 m40 m41 m42 m43 m44 m45 : Value) (w' : World) : Prop where
  chg : Chg (OneP p) w w'
  zero : w'.heap[w.heap.size]? = some zeroE.obj
  box : L 12 = false → w'.heap[xb]? = some cntE.obj
  m0 : L 0 = true → ∃ mb es c, m38 = .map (some mb) ∧ w'.heap[mb]? = some (.map es c) ∧ mb ≠ p ∧ mb ≠ xb ∧ w.heap.size < mb ∧ KwMap L es
  m5 : L 5 = true → m39 = m38
  m6 : L 6 = true → m40 = sv tt
  m7 : L 7 = true → m41 = .int .i64 k
  m8 : L 8 = true → m42 = .pointer (some ⟨p, 0, none⟩)
  p1 : L 9 = false → PAt w' p tb r1
  p2 : L 9 = true → ∃ x r2 E, g r1 = some (x, r2) ∧ m43 = ExF.val E ∧ PAt w' p tb r2 ∧ ExAt w' (fun q => w.heap.size < q ∧ q ≠ xb) x E ∧
    (L 10 = true → ∃ nb, m44 = .slice (some ⟨nb, 0, none⟩) 1 1 ∧ w'.heap[nb]? = some (.cells #[.int .i64 E.k, .int .i64 E.vk, .int .i64 E.vn, sv E.vs, sv E.t, sv E.n, .int .i64 E.s, .slice E.ao E.m E.c] 29 (0, 0)) ∧ w.heap.size < nb ∧ nb ≠ xb ∧ nb ≠ p ∧
      (L 11 = true → m45 = ExF.val ⟨k, 0, 0, [], [], [], 0, some ⟨nb, 0, none⟩, 1, 1⟩) ∧ (L 12 = true → w'.heap[xb]? = some (ExF.obj ⟨k, 0, 0, [], [], [], 0, some ⟨nb, 0, none⟩, 1, 1⟩)))
section
variable {g : Ptree} {p tb xb mb : Nat} {w w' w'' : World} {tt : Str} {k : Int} {r1 : List Tok} {L : Nat → Bool} {m38 m39 m40 m41 m42 m43 m44 m45 : Value} {E0 : ExF}
/-- where other memory turns: its own blocks stand -/
theorem AggI.turn (h : AggI g p tb xb w tt k r1 L m38 m39 m40 m41 m42 m43 m44 m45 w') {G : Nat → Prop} (c : Chg G w' w'') (hG : ∀ q, q < w'.heap.size → G q → False) : AggI g p tb xb w tt k r1 L m38 m39 m40 m41 m42 m43 m44 m45 w'' := by
  have hk : ∀ {q : Nat} {o : Obj}, w'.heap[q]? = some o → w''.heap[q]? = some o := fun {q o} hq => c.heap hq (fun e => hG q (lt_of_heap hq) e)
  have c0 : Chg NoB w' w'' := ⟨c.os, c.tape, c.output, c.size, fun q hq _ => c.keep q hq (fun e => hG q hq e)⟩
  refine ⟨h.chg.trans c0 (fun _ h => h.elim), hk h.zero, fun h1 => hk (h.box h1), fun h1 => ?_, h.m5, h.m6, h.m7, h.m8, fun h1 => (h.p1 h1).quiet c0, fun h1 => ?_⟩
  · obtain ⟨mb, es, cc, a1, a2, a3⟩ := h.m0 h1
    exact ⟨mb, es, cc, a1, hk a2, a3⟩
  · obtain ⟨x, r2, E, a1, a2, a3, a4, a5⟩ := h.p2 h1
    refine ⟨x, r2, E, a1, a2, a3.quiet c0, a4.quiet c0, fun h2 => ?_⟩
    obtain ⟨nb, b1, b2, b3, b4, b5, b6, b7⟩ := a5 h2
    exact ⟨nb, b1, hk b2, b3, b4, b5, b6, fun h3 => hk (b7 h3)⟩
theorem AggI.s0 (h : AggI g p tb xb w tt k r1 L m38 m39 m40 m41 m42 m43 m44 m45 w') (hpl : p < w.heap.size) (hxb : w.heap.size < xb) (hx : xb < w'.heap.size) (h0 : ∀ j, 0 < j → j < 6 → L j = false) :
    AggI g p tb xb w tt k r1 (did L 0) (.map (some w'.heap.size)) m39 m40 m41 m42 m43 m44 m45 (w'.alloc (.map #[] 0)) := by
  have h' := h.turn ((Chg.refl NoB w').alloc (.map #[] 0)) (fun _ _ h => h)
  refine ⟨h'.chg, h'.zero, fun h1 => h'.box (by simpa [did] using h1), fun _ => ⟨w'.heap.size, #[], 0, rfl, hal_new, by omega, by omega, by omega, KwMap.nil fun j s v hj => ?_⟩, fun h1 => ?_, fun h1 => h'.m6 (by simpa [did] using h1), fun h1 => h'.m7 (by simpa [did] using h1), fun h1 => h'.m8 (by simpa [did] using h1), fun h1 => h'.p1 (by simpa [did] using h1), fun h1 => ?_⟩
  · have : 0 < j ∧ j < 6 := by unfold kwAt at hj; split at hj <;> first | (cases hj; done) | omega
    rw [did_ne L (by omega)]
    exact h0 j this.1 this.2
  · have : L 5 = true := by simpa [did] using h1
    rw [h0 5 (by omega) (by omega)] at this
    cases this
  · obtain ⟨x, r2, E, a1, a2, a3, a4, a5⟩ := h'.p2 (by simpa [did] using h1)
    exact ⟨x, r2, E, a1, a2, a3, a4, fun h2 => by
      obtain ⟨nb, b1, b2, b3, b4, b5, b6, b7⟩ := a5 (by simpa [did] using h2)
      exact ⟨nb, b1, b2, b3, b4, b5, fun h3 => b6 (by simpa [did] using h3), fun h3 => b7 (by simpa [did] using h3)⟩⟩
/-- a word is put into the map -/
theorem AggI.put (h : AggI g p tb xb w tt k r1 L (.map (some mb)) m39 m40 m41 m42 m43 m44 m45 w') (htl : tb < w.heap.size) {es : Array MapEntry} {c : Nat} {i : Nat} {s : Str} {v : Int} (hi : kwAt i = some (s, v)) (hmb : w'.heap[mb]? = some (.map es c)) (h1 : mb ≠ p) (h2 : mb ≠ xb) (h3 : w.heap.size < mb) (h4 : KwMap L es) (h5 : L 5 = false)
    : AggI g p tb xb w tt k r1 (did L i) (.map (some mb)) m39 m40 m41 m42 m43 m44 m45 (Go.Proofs.YtnbckfkdmkbopaaGreatDoor.setObj w' mb (.map (mput es c (sv s) (.int .i64 v)) (mclock es c (sv s)))) := by
  have hi6 : i < 5 := by unfold kwAt at hi; split at hi <;> first | (cases hi; done) | omega
  have c0 : Chg (OneP mb) w' (Go.Proofs.YtnbckfkdmkbopaaGreatDoor.setObj w' mb (.map (mput es c (sv s) (.int .i64 v)) (mclock es c (sv s)))) := (Chg.refl (OneP mb) w').setObj (.inl rfl) _
  have hk : ∀ {q : Nat} {o : Obj}, w'.heap[q]? = some o → q ≠ mb → (Go.Proofs.YtnbckfkdmkbopaaGreatDoor.setObj w' mb (.map (mput es c (sv s) (.int .i64 v)) (mclock es c (sv s)))).heap[q]? = some o := fun {q o} hq hne => c0.heap hq hne
  refine ⟨h.chg.trans c0 (fun q hq => .inr (by unfold OneP at hq; omega)), hk h.zero (by omega), fun a => hk (h.box (by simpa [did, show (12 : Nat) ≠ i by omega] using a)) (Ne.symm h2), fun _ => ⟨mb, _, _, rfl, hobj_eq (lt_of_heap hmb), h1, h2, h3, h4.put hi c⟩, fun a => ?_, fun a => h.m6 (by simpa [did, show (6 : Nat) ≠ i by omega] using a), fun a => h.m7 (by simpa [did, show (7 : Nat) ≠ i by omega] using a), fun a => h.m8 (by simpa [did, show (8 : Nat) ≠ i by omega] using a), fun a => (h.p1 (by simpa [did, show (9 : Nat) ≠ i by omega] using a)).chg c0 (by unfold OneP; omega) (by unfold OneP; omega), fun a => ?_⟩
  · have : L 5 = true := by simpa [did, show (5 : Nat) ≠ i by omega] using a
    rw [h5] at this; cases this
  · obtain ⟨x, r2, E, a1, a2, a3, a4, a5⟩ := h.p2 (by simpa [did, show (9 : Nat) ≠ i by omega] using a)
    refine ⟨x, r2, E, a1, a2, a3.chg c0 (by unfold OneP; omega) (by unfold OneP; omega), (ExAt.chg c0 (fun q hq e => hq.2 e) _ _ (ExAt.nomap hmb _ _ a4)).mono (fun q hq _ => hq.1), fun b => ?_⟩
    obtain ⟨nb, b1, b2, b3, b4, b5, b6, b7⟩ := a5 (by simpa [did, show (10 : Nat) ≠ i by omega] using b)
    have hnm : nb ≠ mb := fun e => by subst e; rw [b2] at hmb; cases hmb
    exact ⟨nb, b1, hk b2 hnm, b3, b4, b5, fun d => b6 (by simpa [did, show (11 : Nat) ≠ i by omega] using d), fun d => hk (b7 (by simpa [did, show (12 : Nat) ≠ i by omega] using d)) (Ne.symm h2)⟩
theorem AggI.flag (h : AggI g p tb xb w tt k r1 L m38 m39 m40 m41 m42 m43 m44 m45 w') {i : Nat} (h5 : 5 ≤ i) (h8 : i ≤ 8) {n39 n40 n41 n42 : Value} (e5 : did L i 5 = true → n39 = m38) (e6 : did L i 6 = true → n40 = sv tt) (e7 : did L i 7 = true → n41 = .int .i64 k) (e8 : did L i 8 = true → n42 = .pointer (some ⟨p, 0, none⟩)) :
    AggI g p tb xb w tt k r1 (did L i) m38 n39 n40 n41 n42 m43 m44 m45 w' := by
  have hi : kwAt i = none := by unfold kwAt; split <;> first | omega | rfl
  refine ⟨h.chg, h.zero, fun a => h.box (by simpa [did, show (12 : Nat) ≠ i by omega] using a), fun a => ?_, e5, e6, e7, e8, fun a => h.p1 (by simpa [did, show (9 : Nat) ≠ i by omega] using a), fun a => ?_⟩
  · obtain ⟨mb, es, c, a1, a2, a3, a4, a5, a6⟩ := h.m0 (by simpa [did, show (0 : Nat) ≠ i by omega] using a)
    exact ⟨mb, es, c, a1, a2, a3, a4, a5, a6.other hi⟩
  · obtain ⟨x, r2, E, a1, a2, a3, a4, a5⟩ := h.p2 (by simpa [did, show (9 : Nat) ≠ i by omega] using a)
    refine ⟨x, r2, E, a1, a2, a3, a4, fun b => ?_⟩
    obtain ⟨nb, b1, b2, b3, b4, b5, b6, b7⟩ := a5 (by simpa [did, show (10 : Nat) ≠ i by omega] using b)
    exact ⟨nb, b1, b2, b3, b4, b5, fun d => b6 (by simpa [did, show (11 : Nat) ≠ i by omega] using d), fun d => b7 (by simpa [did, show (12 : Nat) ≠ i by omega] using d)⟩
/-- what is found in the map -/
theorem AggI.found (h : AggI g p tb xb w tt k r1 L m38 m39 m40 m41 m42 m43 m44 m45 w') (h5 : L 5 = true) (h6 : L 6 = true) (h0 : L 0 = true) {j : Nat} (hj : kwAt j = some (tt, k)) (hLj : L j = true) :
    ∃ mb es c, m39 = .map (some mb) ∧ m40 = sv tt ∧ w'.heap[mb]? = some (.map es c) ∧ KeysTy .string es.toList ∧ mfind es.toList (sv tt) = some (.int .i64 k) := by
  obtain ⟨mb, es, c, a1, a2, a3, a4, a5, a6⟩ := h.m0 h0
  exact ⟨mb, es, c, (h.m5 h5).trans a1, h.m6 h6, a2, a6.keys, a6.at_ j tt k hj hLj⟩
/-- the tree has been read -/
theorem AggI.s9 (h : AggI g p tb xb w tt k r1 L m38 m39 m40 m41 m42 m43 m44 m45 w') (hpl : p < w.heap.size) (hxb : w.heap.size < xb) (h12 : L 12 = false) (h10 : L 10 = false) {x : Ex} {r2 : List Tok} {E : ExF} (hg : g r1 = some (x, r2)) (c : Chg (OneP p) w' w'') (hx : ExAt w'' (fun q => w'.heap.size ≤ q) x E) (hpar : PAt w'' p tb r2) :
    AggI g p tb xb w tt k r1 (did L 9) m38 m39 m40 m41 m42 (ExF.val E) m44 m45 w'' := by
  have hb := h.box h12
  have hxl := lt_of_heap hb
  refine ⟨h.chg.trans c (fun _ h => .inl h), c.heap h.zero (by unfold OneP; omega), fun _ => c.heap hb (by unfold OneP; omega), fun a => ?_, fun a => h.m5 (by simpa [did] using a), fun a => h.m6 (by simpa [did] using a), fun a => h.m7 (by simpa [did] using a), fun a => h.m8 (by simpa [did] using a), fun a => ?_, fun _ => ?_⟩
  · obtain ⟨mb, es, cc, a1, a2, a3, a4, a5, a6⟩ := h.m0 (by simpa [did] using a)
    exact ⟨mb, es, cc, a1, c.heap a2 a3, a3, a4, a5, a6.other rfl⟩
  · rw [did_self] at a; cases a
  · refine ⟨x, r2, E, hg, rfl, hpar, hx.mono fun q h1 _ => (show w.heap.size < q ∧ q ≠ xb from by omega), fun b => ?_⟩
    have : L 10 = true := by simpa [did] using b
    rw [h10] at this; cases this
theorem AggI.s10 (h : AggI g p tb xb w tt k r1 L m38 m39 m40 m41 m42 (ExF.val E0) m44 m45 w') (hpl : p < w.heap.size) (hxb : w.heap.size < xb) (h9 : L 9 = true) (h11 : L 11 = false) (h12 : L 12 = false) :
    AggI g p tb xb w tt k r1 (did L 10) m38 m39 m40 m41 m42 (ExF.val E0) (.slice (some ⟨w'.heap.size, 0, none⟩) 1 1) m45 (w'.alloc (.cells #[.int .i64 E0.k, .int .i64 E0.vk, .int .i64 E0.vn, sv E0.vs, sv E0.t, sv E0.n, .int .i64 E0.s, .slice E0.ao E0.m E0.c] 29)) := by
  have hb := lt_of_heap (h.box h12)
  have h' := h.turn ((Chg.refl NoB w').alloc (.cells #[.int .i64 E0.k, .int .i64 E0.vk, .int .i64 E0.vn, sv E0.vs, sv E0.t, sv E0.n, .int .i64 E0.s, .slice E0.ao E0.m E0.c] 29)) (fun _ _ h => h)
  refine ⟨h'.chg, h'.zero, fun a => h'.box (by simpa [did] using a), fun a => ?_, fun a => h.m5 (by simpa [did] using a), fun a => h.m6 (by simpa [did] using a), fun a => h.m7 (by simpa [did] using a), fun a => h.m8 (by simpa [did] using a), fun a => h'.p1 (by simpa [did] using a), fun _ => ?_⟩
  · obtain ⟨mb, es, cc, a1, a2, a3, a4, a5, a6⟩ := h'.m0 (by simpa [did] using a)
    exact ⟨mb, es, cc, a1, a2, a3, a4, a5, a6.other rfl⟩
  · obtain ⟨x', r2', E, a1, a2, a3, a4, _⟩ := h'.p2 h9
    have hE : E = E0 := by
      simp only [Value.agg.injEq, Array.mk.injEq, List.cons.injEq, Value.int.injEq, true_and, and_true, Value.string.injEq, ByteArray.mk.injEq, Value.slice.injEq] at a2
      obtain ⟨q1, q2, q3, q4, q5, q6, q7, q8, q9, q10⟩ := a2
      cases E; cases E0
      simp_all
    subst hE
    refine ⟨x', r2', E, a1, rfl, a3, a4, fun _ => ⟨w'.heap.size, rfl, hal_new, by omega, by omega, by omega, fun d => ?_, fun d => ?_⟩⟩
    · have : L 11 = true := by simpa [did] using d
      rw [h11] at this; cases this
    · have : L 12 = true := by simpa [did] using d
      rw [h12] at this; cases this
theorem AggI.s11 (h : AggI g p tb xb w tt k r1 L m38 m39 m40 m41 m42 m43 m44 m45 w') {nb : Nat} (hm : m44 = .slice (some ⟨nb, 0, none⟩) 1 1) (h12 : L 12 = false) (c : Chg NoB w' w'') :
    AggI g p tb xb w tt k r1 (did L 11) m38 m39 m40 m41 m42 m43 m44 (ExF.val ⟨k, 0, 0, [], [], [], 0, some ⟨nb, 0, none⟩, 1, 1⟩) w'' := by
  have h' := h.turn c (fun _ _ h => h)
  refine ⟨h'.chg, h'.zero, fun a => h'.box (by simpa [did] using a), fun a => ?_, fun a => h.m5 (by simpa [did] using a), fun a => h.m6 (by simpa [did] using a), fun a => h.m7 (by simpa [did] using a), fun a => h.m8 (by simpa [did] using a), fun a => h'.p1 (by simpa [did] using a), fun a => ?_⟩
  · obtain ⟨mb, es, cc, a1, a2, a3, a4, a5, a6⟩ := h'.m0 (by simpa [did] using a)
    exact ⟨mb, es, cc, a1, a2, a3, a4, a5, a6.other rfl⟩
  · obtain ⟨x, r2, E, a1, a2, a3, a4, a5⟩ := h'.p2 (by simpa [did] using a)
    refine ⟨x, r2, E, a1, a2, a3, a4, fun b => ?_⟩
    obtain ⟨nb', b1, b2, b3, b4, b5, b6, b7⟩ := a5 (by simpa [did] using b)
    have : nb' = nb := by rw [hm] at b1; simp at b1; exact b1.symm
    subst this
    exact ⟨nb', b1, b2, b3, b4, b5, fun _ => rfl, fun d => by
      have : L 12 = true := by simpa [did] using d
      rw [h12] at this; cases this⟩
theorem AggI.s12 (h : AggI g p tb xb w tt k r1 L m38 m39 m40 m41 m42 m43 m44 m45 w') {nb : Nat} (hm : m44 = .slice (some ⟨nb, 0, none⟩) 1 1) (h12 : L 12 = false) (hpl : p < w.heap.size) (htl : tb < w.heap.size) (hxb : w.heap.size < xb) (c : Chg (OneP xb) w' w'')
    (hv : w''.heap[xb]? = some (ExF.obj ⟨k, 0, 0, [], [], [], 0, some ⟨nb, 0, none⟩, 1, 1⟩)) : AggI g p tb xb w tt k r1 (did L 12) m38 m39 m40 m41 m42 m43 m44 m45 w'' := by
  refine ⟨h.chg.trans c (fun q hq => .inr (by unfold OneP at hq; omega)), c.heap h.zero (by unfold OneP; omega), (fun a => by rw [did_self] at a; cases a), fun a => ?_, fun a => h.m5 (by simpa [did] using a), fun a => h.m6 (by simpa [did] using a), fun a => h.m7 (by simpa [did] using a), fun a => h.m8 (by simpa [did] using a), fun a => (h.p1 (by simpa [did] using a)).chg c (by unfold OneP; omega) (by unfold OneP; omega), fun a => ?_⟩
  · obtain ⟨mb, es, cc, a1, a2, a3, a4, a5, a6⟩ := h.m0 (by simpa [did] using a)
    exact ⟨mb, es, cc, a1, c.heap a2 a4, a3, a4, a5, a6.other rfl⟩
  · obtain ⟨x, r2, E, a1, a2, a3, a4, a5⟩ := h.p2 (by simpa [did] using a)
    refine ⟨x, r2, E, a1, a2, a3.chg c (by unfold OneP; omega) (by unfold OneP; omega), ExAt.chg c (fun q hq e => hq.2 e) _ _ a4, fun b => ?_⟩
    obtain ⟨nb', b1, b2, b3, b4, b5, b6, b7⟩ := a5 (by simpa [did] using b)
    have : nb' = nb := by rw [hm] at b1; simp at b1; exact b1.symm
    subst this
    exact ⟨nb', b1, c.heap b2 b4, b3, b4, b5, fun d => b6 (by simpa [did] using d), fun _ => hv⟩
theorem AggI.fin (h : AggI g p tb xb w tt k r1 L m38 m39 m40 m41 m42 m43 m44 m45 w') (hL : ∀ i, i < 13 → L i = true) :
    ∃ x r2 E, g r1 = some (x, r2) ∧ PAt w' p tb r2 ∧ ExAt w' (fun q => w.heap.size < q ∧ q ≠ xb) (.un k x) E ∧ w'.heap[xb]? = some (ExF.obj E) := by
  obtain ⟨x, r2, E, a1, a2, a3, a4, a5⟩ := h.p2 (hL 9 (by omega))
  obtain ⟨nb, b1, b2, b3, b4, b5, b6, b7⟩ := a5 (hL 10 (by omega))
  exact ⟨x, r2, _, a1, a3, ⟨nb, 1, E, rfl, lt_of_heap b2, ⟨b3, b4⟩, range_block b2, a4⟩, b7 (hL 12 (by omega))⟩
end
end Go.Proofs.YtnbckfkdmkbopaaGreatDoor
