/-
  Plain laws of the book of transactions: what a snapshot sees for ever, what a list of a state holds. No condition beyond each lemma's own.
-/
import Derived.Test.YtkneldeemlngkaaMChainL
set_option autoImplicit false
namespace Go.Proofs.Ytkneldeemlngkaa
open Go Go.RowKit

/-- the numbers below n, as they stand -/
def upto (n : Int) : List Int := (List.range n.toNat).map (fun k : Nat => (k : Int))
theorem mem_upto {n x : Int} : x ∈ upto n ↔ 0 ≤ x ∧ x < n := by
  unfold upto
  rw [List.mem_map]
  constructor
  · rintro ⟨k, hk, rfl⟩
    have := List.mem_range.1 hk
    omega
  · rintro ⟨h0, h1⟩
    exact ⟨x.toNat, List.mem_range.2 (by omega), by omega⟩
theorem upto_sorted (n : Int) : (upto n).Pairwise (· < ·) := by
  unfold upto
  rw [List.pairwise_map]
  exact List.pairwise_lt_range.imp (fun h => by omega)
theorem upto_succ {n : Int} (h : 0 ≤ n) : upto (n + 1) = upto n ++ [n] := by
  unfold upto
  rw [show (n + 1).toNat = n.toNat + 1 by omega, List.range_succ, List.map_append]
  simp; omega
def Bk.list (B : Bk) (s : Int) : List Int := (upto B.next).filter fun k => (B.get k).1 == s
theorem list_sorted (B : Bk) (s : Int) : (B.list s).Pairwise (· < ·) := (upto_sorted B.next).filter _
theorem mem_list {B : Bk} (ok : B.ok) {s : Int} (hs : s ≠ 0) {x : Int} : x ∈ B.list s ↔ (B.get x).1 = s := by
  unfold Bk.list
  rw [List.mem_filter, mem_upto]
  simp only [beq_iff_eq]
  constructor
  · exact fun h => h.2
  · intro h
    have := get_dom ok (t := x) (by rw [h]; exact hs)
    exact ⟨by omega, h⟩
/-- two lists that rise and hold the same are one -/
theorem rise_eq : ∀ {a b : List Int}, a.Pairwise (· < ·) → b.Pairwise (· < ·) → (∀ x, x ∈ a ↔ x ∈ b) → a = b
  | [], [], _, _, _ => rfl
  | [], y :: b, _, _, h => absurd ((h y).2 (by simp)) (by simp)
  | x :: a, [], _, _, h => absurd ((h x).1 (by simp)) (by simp)
  | x :: a, y :: b, ha, hb, h => by
    obtain ⟨ha1, ha2⟩ := List.pairwise_cons.1 ha
    obtain ⟨hb1, hb2⟩ := List.pairwise_cons.1 hb
    have hxy : x = y := by
      rcases List.mem_cons.1 ((h x).1 (by simp)) with e | e
      · exact e
      · rcases List.mem_cons.1 ((h y).2 (by simp)) with e2 | e2
        · exact e2.symm
        · have := ha1 y e2; have := hb1 x e; omega
    subst hxy
    congr 1
    refine rise_eq ha2 hb2 (fun z => ⟨fun hz => ?_, fun hz => ?_⟩)
    · rcases List.mem_cons.1 ((h z).1 (by simp [hz])) with e | e
      · have := ha1 z hz; omega
      · exact e
    · rcases List.mem_cons.1 ((h z).2 (by simp [hz])) with e | e
      · have := hb1 z hz; omega
      · exact e
theorem begin_ok' {B : Bk} (ok : B.ok) (h : B.next ≤ B.most) : B.begin.ok :=
  ⟨by have := ok.n1; show 1 ≤ B.next + 1; omega, by show B.next + 1 ≤ B.most + 1; omega, ok.m1, by have := ok.s0; show 0 ≤ B.step + 1; omega, ok.f1, by have := ok.f2; show B.first ≤ B.next + 1; omega, upd_dom ok.dom ok.n1 (by show B.next < B.next + 1; omega) (by show B.next ≤ B.next + 1; omega)⟩
theorem fin_ok' {B : Bk} (ok : B.ok) {t s : Int} (h : (B.get t).1 = 1) : (B.fin t s).ok := by
  have hd := get_dom ok (t := t) (by rw [h]; decide)
  exact ⟨ok.n1, ok.n2, ok.m1, by have := ok.s0; show 0 ≤ B.step + 1; omega, ok.f1, ok.f2, upd_dom ok.dom hd.1 hd.2 (Int.le_refl _)⟩
def Bk.beginB (B : Bk) : Bk := if B.most < B.next then B else B.begin
def Bk.op (B : Bk) (K T : Int) : Bk := if K = 1 then B.beginB else if K = 2 then B.endB T 2 else if K = 3 then B.endB T 3 else B
inductive Steps : Nat → Bk → Bk → Prop where
  | nil (B : Bk) : Steps 0 B B
  | op {n : Nat} {B C : Bk} (h : Steps n B C) (K T : Int) : Steps (n + 1) B (C.op K T)
/-- what is kept by every call -/
theorem op_cases {P : Bk → Prop} {B : Bk} (K T : Int) (h0 : P B) (h1 : B.next ≤ B.most → P B.begin) (h2 : ∀ s : Int, s = 2 ∨ s = 3 → (B.get T).1 = 1 → P (B.fin T s)) : P (B.op K T) := by
  unfold Bk.op
  split
  · unfold Bk.beginB
    split
    · exact h0
    · exact h1 (by omega)
  · split
    · unfold Bk.endB
      split
      · exact h2 2 (.inl rfl) ‹_›
      · exact h0
    · split
      · unfold Bk.endB
        split
        · exact h2 3 (.inr rfl) ‹_›
        · exact h0
      · exact h0
theorem op_bounds (B : Bk) (K T : Int) : (B.op K T).step ≤ B.step + 1 ∧ (B.op K T).next ≤ B.next + 1 ∧ (B.op K T).most = B.most ∧ (B.op K T).first = B.first ∧ B.step ≤ (B.op K T).step ∧ B.next ≤ (B.op K T).next := by
  refine op_cases (P := fun C => C.step ≤ B.step + 1 ∧ C.next ≤ B.next + 1 ∧ C.most = B.most ∧ C.first = B.first ∧ B.step ≤ C.step ∧ B.next ≤ C.next) K T ⟨by omega, by omega, rfl, rfl, Int.le_refl _, Int.le_refl _⟩ (fun _ => ?_) (fun _ _ _ => ?_)
  · exact ⟨Int.le_refl _, Int.le_refl _, rfl, rfl, by show B.step ≤ B.step + 1; omega, by show B.next ≤ B.next + 1; omega⟩
  · exact ⟨Int.le_refl _, by show B.next ≤ B.next + 1; omega, rfl, rfl, by show B.step ≤ B.step + 1; omega, Int.le_refl _⟩
theorem Steps.bounds {n : Nat} {B C : Bk} (h : Steps n B C) : C.step ≤ B.step + n ∧ C.next ≤ B.next + n ∧ C.most = B.most ∧ C.first = B.first ∧ B.step ≤ C.step ∧ B.next ≤ C.next := by
  induction h with
  | nil B => exact ⟨by omega, by omega, rfl, rfl, Int.le_refl _, Int.le_refl _⟩
  | op h K T ih =>
    rename_i n B C
    have := op_bounds C K T
    exact ⟨by omega, by omega, this.2.2.1.trans ih.2.2.1, this.2.2.2.1.trans ih.2.2.2.1, by omega, by omega⟩
/-- a book as its own calls make it -/
structure Wf (B : Bk) : Prop where
  ok : B.ok
  ent : ∀ k e, B.all k = some e → (e.1 = 1 ∨ e.1 = 2 ∨ e.1 = 3) ∧ 1 ≤ e.2.1 ∧ e.2.1 ≤ B.step ∧ (e.1 ≠ 1 → e.2.1 < e.2.2 ∧ e.2.2 ≤ B.step)
  full : ∀ k, 1 ≤ k → k < B.next → ∃ e, B.all k = some e
theorem Wf.begin {B : Bk} (h : Wf B) (hm : B.next ≤ B.most) : Wf B.begin := by
  refine ⟨begin_ok' h.ok hm, fun k e he => ?_, fun k h1 h2 => ?_⟩
  · have he' : eupd B.all B.next (1, B.step + 1, 0) k = some e := he
    have := h.ok.s0
    unfold eupd at he'
    split at he'
    · obtain rfl := Option.some.inj he'
      exact ⟨.inl rfl, by show 1 ≤ B.step + 1; omega, Int.le_refl _, fun h => absurd rfl h⟩
    · obtain ⟨a, b, c, d⟩ := h.ent k e he'
      exact ⟨a, b, by show _ ≤ B.step + 1; omega, fun hh => ⟨(d hh).1, by have := (d hh).2; show _ ≤ B.step + 1; omega⟩⟩
  · by_cases hk : k = B.next
    · subst hk; exact ⟨_, begin_new B⟩
    · have h2' : k < B.next + 1 := h2
      obtain ⟨e, he⟩ := h.full k h1 (by omega)
      exact ⟨e, begin_all h.ok he⟩
theorem Wf.fin {B : Bk} (h : Wf B) {t s : Int} (hs : s = 2 ∨ s = 3) (ht : (B.get t).1 = 1) : Wf (B.fin t s) := by
  refine ⟨fin_ok' h.ok ht, fun k e he => ?_, fun k h1 h2 => ?_⟩
  · have he' : eupd B.all t (s, (B.get t).2.1, B.step + 1) k = some e := he
    unfold eupd at he'
    split at he'
    · obtain rfl := Option.some.inj he'
      have hd := get_dom h.ok (t := t) (by rw [ht]; decide)
      obtain ⟨e2, he2⟩ := h.full t hd.1 hd.2
      obtain ⟨a, b, c, d⟩ := h.ent t e2 he2
      have hg : (B.get t).2.1 = e2.2.1 := by rw [get_some he2]
      exact ⟨by show s = 1 ∨ s = 2 ∨ s = 3; omega, by show 1 ≤ (B.get t).2.1; omega, by show (B.get t).2.1 ≤ B.step + 1; omega, fun _ => ⟨by show (B.get t).2.1 < B.step + 1; omega, Int.le_refl _⟩⟩
    · obtain ⟨a, b, c, d⟩ := h.ent k e he'
      exact ⟨a, b, by show _ ≤ B.step + 1; omega, fun hh => ⟨(d hh).1, by have := (d hh).2; show _ ≤ B.step + 1; omega⟩⟩
  · by_cases hk : k = t
    · subst hk; exact ⟨_, fin_new B k s⟩
    · obtain ⟨e, he⟩ := h.full k h1 h2
      exact ⟨e, by rw [fin_all hk]; exact he⟩
theorem Wf.op {B : Bk} (h : Wf B) (K T : Int) : Wf (B.op K T) := op_cases K T h (fun hm => h.begin hm) (fun s hs ht => h.fin hs ht)
theorem Wf.steps {n : Nat} {B C : Bk} (h : Wf B) (hs : Steps n B C) : Wf C := by
  induction hs with
  | nil => exact h
  | op _ K T ih => exact (ih h).op K T
theorem wf_new (mo : Int) (h0 : 0 ≤ mo) (h1 : mo ≤ 16777216) : Wf { next := 1, most := mo, step := 0, first := 1, all := fun _ => none } :=
  ⟨⟨Int.le_refl _, by show 1 ≤ mo + 1; omega, h1, Int.le_refl _, Int.le_refl _, Int.le_refl _, fun k e h => (by cases h)⟩, fun k e h => (by cases h), fun k h1 (h2 : k < 1) => by omega⟩
/-- what the snapshot of t sees: those of 'done', for ever -/
structure Snap (B : Bk) (t bg : Int) (done : List Int) : Prop where
  wf : Wf B
  first : B.first = 1
  me : ∃ s d, B.all t = some (s, bg, d)
  seen : ∀ u, ((B.get u).1 = 2 ∧ (B.get u).2.2 < bg) ↔ u ∈ done
  lt : ∀ u ∈ done, 1 ≤ u ∧ u < t
  step : bg ≤ B.step
theorem Snap.start {B : Bk} (h : Wf B) (hf : B.first = 1) (hm : B.next ≤ B.most) : Snap B.begin B.next (B.step + 1) (B.list 2) := by
  have hnx : (B.begin.get B.next) = (1, B.step + 1, 0) := get_some (begin_new B)
  have hot : ∀ u, u ≠ B.next → B.begin.get u = B.get u := fun u hu => by
    unfold Bk.get
    show (eupd B.all B.next _ u).getD _ = _
    unfold eupd; rw [if_neg hu]
  refine ⟨h.begin hm, hf, ⟨1, 0, begin_new B⟩, fun u => ?_, fun u hu => ?_, Int.le_refl _⟩
  · rw [mem_list h.ok (by decide)]
    by_cases hu : u = B.next
    · subst hu
      rw [hnx]
      have : (B.get B.next).1 ≠ 2 := fun hh => by have := get_dom h.ok (t := B.next) (by rw [hh]; decide); omega
      simp [this]
    · rw [hot u hu]
      constructor
      · exact fun hh => hh.1
      · intro hh
        refine ⟨hh, ?_⟩
        have hd := get_dom h.ok (t := u) (by rw [hh]; decide)
        obtain ⟨e, he⟩ := h.full u hd.1 hd.2
        rw [get_some he] at hh ⊢
        have := (h.ent u e he).2.2.2 (by omega)
        omega
  · exact get_dom h.ok (t := u) (by rw [(mem_list h.ok (by decide)).1 hu]; decide)
theorem Snap.op {B : Bk} {t bg : Int} {done : List Int} (h : Snap B t bg done) (K T : Int) : Snap (B.op K T) t bg done := by
  refine op_cases (P := fun C => Snap C t bg done) K T h (fun hm => ?_) (fun s hs ht => ?_)
  · have hnx : (B.begin.get B.next) = (1, B.step + 1, 0) := get_some (begin_new B)
    refine ⟨h.wf.begin hm, h.first, ?_, fun u => ?_, h.lt, by have := h.step; show bg ≤ B.step + 1; omega⟩
    · obtain ⟨s, d, hme⟩ := h.me
      exact ⟨s, d, begin_all h.wf.ok hme⟩
    · rw [← h.seen u]
      by_cases hu : u = B.next
      · subst hu
        rw [hnx]
        have : (B.get B.next).1 ≠ 2 := fun hh => by have := get_dom h.wf.ok (t := B.next) (by rw [hh]; decide); omega
        simp [this]
      · have : B.begin.get u = B.get u := by
          unfold Bk.get
          show (eupd B.all B.next _ u).getD _ = _
          unfold eupd; rw [if_neg hu]
        rw [this]
  · refine ⟨h.wf.fin hs ht, h.first, ?_, fun u => ?_, h.lt, by have := h.step; show bg ≤ B.step + 1; omega⟩
    · obtain ⟨s2, d, hme⟩ := h.me
      by_cases htt : t = T
      · subst htt
        exact ⟨s, B.step + 1, by rw [fin_new, get_some hme]⟩
      · exact ⟨s2, d, by rw [fin_all htt]; exact hme⟩
    · rw [← h.seen u]
      by_cases hu : u = T
      · subst hu
        have : (B.fin u s).get u = (s, (B.get u).2.1, B.step + 1) := get_some (fin_new B u s)
        rw [this, ht]
        have := h.step
        simp only [show ((1 : Int) = 2) = False by simp, false_and, iff_false, not_and]
        omega
      · have : (B.fin T s).get u = B.get u := by unfold Bk.get; rw [fin_all hu]
        rw [this]
theorem Snap.steps {n : Nat} {B C : Bk} {t bg : Int} {done : List Int} (h : Snap B t bg done) (hs : Steps n B C) : Snap C t bg done := by
  induction hs with
  | nil => exact h
  | op _ K T ih => exact (ih h).op K T
theorem Wf.state {B : Bk} (h : Wf B) {u : Int} (h1 : 1 ≤ u) (h2 : u < B.next) : B.state u ≠ 0 := by
  obtain ⟨e, he⟩ := h.full u h1 h2
  rw [state_some h.ok he]
  have := (h.ent u e he).1
  omega
theorem Snap.t1 {B : Bk} {t bg : Int} {done : List Int} (h : Snap B t bg done) : 1 ≤ t ∧ t < B.next := by
  obtain ⟨s, d, hme⟩ := h.me
  exact h.wf.ok.dom t _ hme
/-- whom the snapshot sees -/
theorem Snap.sees {B : Bk} {t bg : Int} {done : List Int} (h : Snap B t bg done) {u : Int} (h1 : 1 ≤ u) (h2 : u < B.next) : B.sees t u = (t == u || decide (u ∈ done)) := by
  have ht := h.t1
  obtain ⟨s, d, hme⟩ := h.me
  unfold Bk.sees
  rw [if_neg (by
    rintro (hh | hh | hh)
    · exact h.wf.state ht.1 ht.2 hh
    · exact h.wf.state h1 h2 hh
    · rw [h.first] at hh; omega), get_some hme]
  congr 1
  rw [Bool.eq_iff_iff]
  simp only [Bool.and_eq_true, beq_iff_eq, decide_eq_true_eq]
  exact h.seen u
theorem Snap.sees_out {B : Bk} {t bg : Int} {done : List Int} (h : Snap B t bg done) : B.sees t (t + 1) = false := by
  have ht := h.t1
  by_cases hn : t + 1 < B.next
  · rw [h.sees (by omega) hn]
    have h1 : (t == t + 1) = false := by simp; omega
    have h2 : t + 1 ∉ done := fun hh => by have := h.lt _ hh; omega
    rw [h1]; simp [h2]
  · unfold Bk.sees
    rw [if_pos (.inr (.inl (by unfold Bk.state; rw [if_pos (.inr (by omega))])))]
theorem Snap.vers {B : Bk} {t bg : Int} {done : List Int} (h : Snap B t bg done) {m : Int} (hm : m ∈ done) (k : Int) : B.vers t m k = !B.sees t k := by
  have ht := h.t1
  have hlt := h.lt m hm
  unfold Bk.vers
  rw [if_neg (by
    rintro (hh | hh)
    · exact h.wf.state ht.1 ht.2 hh
    · rw [h.first] at hh; omega), h.sees hlt.1 (by omega)]
  simp [hm]
/-- of two nobody sees the other, where each could -/
theorem Wf.both {B : Bk} (h : Wf B) {t u : Int} (hne : t ≠ u) (h1 : B.sees t u = true) (h2 : B.sees u t = true) : False := by
  have hd : ∀ {a b : Int}, a ≠ b → B.sees a b = true → (B.get b).1 = 2 ∧ (B.get b).2.2 < (B.get a).2.1 := fun {a b} hab hs => by
    unfold Bk.sees at hs
    split at hs
    · cases hs
    · have : (a == b) = false := by simpa using hab
      rw [this] at hs
      simpa using hs
  obtain ⟨a1, a2⟩ := hd hne h1
  obtain ⟨b1, b2⟩ := hd (Ne.symm hne) h2
  have hx : ∀ x, (B.get x).1 = 2 → (B.get x).2.1 < (B.get x).2.2 := fun x hx => by
    have hdm := get_dom h.ok (t := x) (by rw [hx]; decide)
    obtain ⟨e, he⟩ := h.full x hdm.1 hdm.2
    rw [get_some he] at hx ⊢
    exact ((h.ent x e he).2.2.2 (by omega)).1
  have := hx t b1
  have := hx u a1
  omega
theorem conc_not {B : Bk} {t u : Int} (h : B.conc t u = true) : B.sees t u = false ∧ B.sees u t = false := by
  unfold Bk.conc at h
  split at h
  · cases h
  · simp at h
    exact ⟨h.1.2, h.2⟩
/-- how many of the first numbers the snapshot sees beside itself -/
def cnt (done : List Int) (n : Int) : Int := ((upto n).filter fun u => decide (u ∈ done)).length
theorem cnt_one {done : List Int} (h : ∀ u ∈ done, 1 ≤ u) : cnt done 1 = 0 := by
  unfold cnt upto
  have : (0 : Int) ∉ done := fun hh => by have := h _ hh; omega
  simp [this]
theorem cnt_succ (done : List Int) {n : Int} (h : 0 ≤ n) : cnt done (n + 1) = cnt done n + (if n ∈ done then 1 else 0) := by
  unfold cnt
  rw [upto_succ h, List.filter_append]
  by_cases hn : n ∈ done <;> simp [hn]
theorem cnt_all {done : List Int} (hs : done.Pairwise (· < ·)) {n : Int} (h : ∀ u ∈ done, 1 ≤ u ∧ u < n) : cnt done n = done.length := by
  unfold cnt
  rw [rise_eq (a := (upto n).filter fun u => decide (u ∈ done)) (b := done) ((upto_sorted n).filter _) hs (fun x => ?_)]
  rw [List.mem_filter, mem_upto]
  constructor
  · exact fun hh => by simpa using hh.2
  · exact fun hh => ⟨by have := h x hh; omega, by simpa using hh⟩
theorem cnt_le (done : List Int) (n : Int) : 0 ≤ cnt done n ∧ cnt done n ≤ n.toNat := by
  unfold cnt upto
  have := List.length_filter_le (fun u => decide (u ∈ done)) ((List.range n.toNat).map (fun k : Nat => (k : Int)))
  simp at this ⊢
  omega
end Go.Proofs.Ytkneldeemlngkaa
