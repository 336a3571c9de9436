/-
  The document's book and the program's, told plainly: what makes them alike, and that every call keeps it. No condition beyond each lemma's own.
-/
import Derived.Test.YtkneldeemlngkaaMRBook
import Derived.Test.YtkneldeemlngkaaMListB
set_option autoImplicit false
namespace Go.Proofs.Ytkneldeemlngkaa
open Go Go.RowKit

def RBk.begin (R : RBk) : RBk := { R with l := R.l ++ [⟨1, R.l.map (fun x => x.st == 2), false⟩] }
def RBk.fin (R : RBk) (t s : Int) : RBk := { R with l := R.l.set t.toNat { R.tx t with st := s } }
def RBk.list (R : RBk) (s : Int) : List Int := (upto R.l.length).filter fun k => (R.tx k).st == s
def RBk.start (nx mo : Int) (V : Nat → Int) (len : Nat) : RBk := ⟨(List.range nx.toNat).map fun (t : Nat) => ⟨if t = 0 then 0 else if isIn V len (t : Int) then 2 else 3, [], true⟩, mo⟩
structure Rel (B : Bk) (R : RBk) : Prop where
  ok : B.ok
  len : (R.l.length : Int) = B.next
  most : R.most = B.most
  zero : (R.tx 0).st = 0
  st : ∀ t, 1 ≤ t → t < B.next → (R.tx t).st = B.state t
  old : ∀ t, 0 ≤ t → t < B.next → (R.tx t).old = decide (t < B.first)
  short : ∀ x ∈ R.l, x.seen.length ≤ R.l.length
  seen : ∀ t, B.first ≤ t → t < B.next → ((R.tx t).seen.length : Int) = t ∧ ∀ u : Int, 1 ≤ u → u < t → ((R.tx t).seen[u.toNat]?).getD false = ((B.get u).1 == 2 && decide ((B.get u).2.2 < (B.get t).2.1))
  olde : ∀ k e, B.all k = some e → k < B.first → e = (2, 0, 0)
  ent : ∀ k e, B.all k = some e → B.first ≤ k → (e.1 = 1 ∨ e.1 = 2 ∨ e.1 = 3) ∧ 1 ≤ e.2.1 ∧ e.2.1 ≤ B.step ∧ (e.1 ≠ 1 → e.2.1 < e.2.2 ∧ e.2.2 ≤ B.step)
  full : ∀ k, B.first ≤ k → k < B.next → ∃ e, B.all k = some e
  rise : ∀ u t, B.first ≤ u → u < t → t < B.next → (B.get u).2.1 < (B.get t).2.1
theorem bstate_some {B : Bk} {t : Int} {e : Ent} (h1 : 1 ≤ t) (h2 : t < B.next) (h : B.all t = some e) : B.state t = e.1 := by
  unfold Bk.state; rw [if_neg (by omega), h]
theorem bstate_none {B : Bk} {t : Int} (h1 : 1 ≤ t) (h2 : t < B.next) (h : B.all t = none) : B.state t = 3 := by
  unfold Bk.state; rw [if_neg (by omega), h]
theorem bget_some {B : Bk} {t : Int} {e : Ent} (h : B.all t = some e) : B.get t = e := by unfold Bk.get; rw [h]; rfl
theorem bget_none {B : Bk} {t : Int} (h : B.all t = none) : B.get t = (0, 0, 0) := by unfold Bk.get; rw [h]; rfl
theorem bstate_dom {B : Bk} {t : Int} (h : B.state t ≠ 0) : 1 ≤ t ∧ t < B.next := by
  unfold Bk.state at h
  split at h
  · exact absurd rfl h
  · omega
section
variable {B : Bk} {R : RBk}
theorem Rel.rok (h : Rel B R) : R.ok :=
  ⟨by have := h.len; have := h.ok.n1; omega, by have := h.len; have := h.ok.n2; have := h.most; omega, by have := h.most; have := h.ok.m1; omega, h.short⟩
theorem Rel.state (h : Rel B R) (t : Int) : R.state t = B.state t := by
  have hl := h.len
  by_cases h1 : 1 ≤ t ∧ t < B.next
  · rw [← h.st t h1.1 h1.2]
    unfold RBk.state
    rw [if_neg (by omega)]
  · have hb : B.state t = 0 := by unfold Bk.state; rw [if_pos (by omega)]
    rw [hb]
    unfold RBk.state
    split
    · rfl
    · obtain rfl : t = 0 := by omega
      exact h.zero
theorem Rel.done_lt (h : Rel B R) {t u : Int} (ht : B.first ≤ t) (hut : t < u) (hu : u < B.next) (h2 : (B.get u).1 = 2) : ¬ (B.get u).2.2 < (B.get t).2.1 := by
  obtain ⟨e, he⟩ := h.full u (by omega) hu
  have hr := h.rise t u ht hut hu
  rw [bget_some he] at h2 hr ⊢
  have := (h.ent u e he (by omega)).2.2.2 (by omega)
  omega
theorem Rel.sees (h : Rel B R) (t u : Int) : R.sees t u = B.sees t u := by
  unfold RBk.sees Bk.sees
  rw [h.state, h.state]
  by_cases h1 : B.state t = 0
  · rw [if_pos (.inl h1), if_pos (.inl h1)]
  · by_cases h2 : B.state u = 0
    · rw [if_pos (.inr (.inl h2)), if_pos (.inr (.inl h2))]
    · have dt := bstate_dom h1
      have du := bstate_dom h2
      by_cases h3 : t < B.first
      · rw [if_pos (.inr (.inr (by rw [h.old t (by omega) dt.2]; exact decide_eq_true h3))), if_pos (.inr (.inr h3))]
      · rw [if_neg (by rw [h.old t (by omega) dt.2]; simp only [decide_eq_true_eq]; omega), if_neg (by omega)]
        obtain ⟨hl, hs⟩ := h.seen t (by omega) dt.2
        have e1 : decide (t = u) = (t == u) := by rw [Bool.eq_iff_iff]; simp
        rw [e1]
        by_cases h4 : u < t
        · unfold TxA.saw
          rw [hs u du.1 h4, decide_eq_true (by omega), Bool.true_and]
        · by_cases h5 : t = u
          · subst h5; simp
          · unfold TxA.saw
            rw [decide_eq_false (by omega), Bool.false_and]
            have : ((B.get u).1 == 2 && decide ((B.get u).2.2 < (B.get t).2.1)) = false := by
              by_cases h6 : (B.get u).1 = 2
              · rw [decide_eq_false (h.done_lt (by omega) (by omega) du.2 h6), Bool.and_false]
              · rw [show ((B.get u).1 == 2) = false by simpa using h6, Bool.false_and]
            rw [this]
theorem Rel.isOld (h : Rel B R) {t : Int} (ht : B.state t ≠ 0) : (R.tx t).old = true ↔ t < B.first := by
  have dt := bstate_dom ht
  rw [h.old t (by omega) dt.2]; simp
theorem Rel.vers (h : Rel B R) (t m k : Int) : R.vers t m k = B.vers t m k := by
  unfold RBk.vers Bk.vers
  rw [h.state, h.sees, h.sees]
  have e1 : decide (m = 0) = (m == 0) := by rw [Bool.eq_iff_iff]; simp
  by_cases h1 : B.state t = 0
  · rw [if_pos (.inl h1), if_pos (.inl h1)]
  · by_cases h3 : t < B.first
    · rw [if_pos (.inr ((h.isOld h1).2 h3)), if_pos (.inr h3)]
    · rw [if_neg (fun hh => hh.elim h1 (fun hh => h3 ((h.isOld h1).1 hh))), if_neg (fun hh => hh.elim h1 h3), e1]
theorem Rel.conc (h : Rel B R) (t u : Int) : R.conc t u = B.conc t u := by
  unfold RBk.conc Bk.conc
  rw [h.state, h.state, h.sees, h.sees]
  by_cases h0 : t = u
  · rw [if_pos (.inl h0), if_pos (.inl h0)]
  · by_cases h1 : B.state t = 1 ∨ B.state t = 2
    · by_cases h2 : B.state u = 1 ∨ B.state u = 2
      · have o1 : on (B.state t) = true := by unfold on; rcases h1 with h1 | h1 <;> rw [h1] <;> rfl
        have o2 : on (B.state u) = true := by unfold on; rcases h2 with h2 | h2 <;> rw [h2] <;> rfl
        have z1 : B.state t ≠ 0 := by omega
        have z2 : B.state u ≠ 0 := by omega
        by_cases h3 : min t u < B.first
        · have hc : (R.tx t).old = true ∨ (R.tx u).old = true := by
            rcases Int.lt_or_le t B.first with h4 | h4
            · exact .inl ((h.isOld z1).2 h4)
            · exact .inr ((h.isOld z2).2 (by omega))
          rw [if_pos (.inr (.inr (.inr hc))), if_pos (.inr h3)]
        · rw [if_neg, if_neg (fun hh => hh.elim h0 h3), o1, o2]
          · rfl
          · rintro (hh | hh | hh | hh | hh)
            · exact h0 hh
            · omega
            · omega
            · have := (h.isOld z1).1 hh; omega
            · have := (h.isOld z2).1 hh; omega
      · rw [if_pos (.inr (.inr (.inl (by omega))))]
        have o2 : on (B.state u) = false := by unfold on; simp; omega
        rw [o2]
        split <;> simp
    · rw [if_pos (.inr (.inl (by omega)))]
      have o1 : on (B.state t) = false := by unfold on; simp; omega
      rw [o1]
      split <;> simp
theorem Rel.list (h : Rel B R) {s : Int} (hs : s = 1 ∨ s = 2) : R.list s = B.list s := by
  unfold RBk.list Bk.list
  rw [h.len]
  refine List.filter_congr (fun k hk => ?_)
  obtain ⟨k0, k1⟩ := mem_upto.1 hk
  by_cases hz : k = 0
  · subst hz
    rw [h.zero]
    have : B.all 0 = none := by
      cases ha : B.all 0 with
      | none => rfl
      | some e => have := (h.ok.dom 0 e ha).1; omega
    rw [bget_none this]
  · rw [h.st k (by omega) k1]
    cases ha : B.all k with
    | none =>
      rw [bget_none ha, bstate_none (by omega) k1 ha]
      rcases hs with rfl | rfl <;> rfl
    | some e => rw [bget_some ha, bstate_some (by omega) k1 ha]
theorem tx_old (R : RBk) {t : Int} (h0 : 0 ≤ t) (h1 : t < R.l.length) : R.begin.tx t = R.tx t := by
  unfold RBk.tx RBk.begin
  simp only
  rw [List.getElem?_append_left (by omega)]
theorem tx_new (R : RBk) {t : Int} (h : t = R.l.length) : R.begin.tx t = ⟨1, R.l.map (fun x => x.st == 2), false⟩ := by
  unfold RBk.tx RBk.begin
  simp only
  rw [List.getElem?_append_right (by omega), show t.toNat - R.l.length = 0 by omega]
  rfl
theorem rtx_get (R : RBk) {t : Int} (h0 : 0 ≤ t) (h1 : t < R.l.length) : R.l[t.toNat]? = some (R.tx t) := by
  unfold RBk.tx
  rw [List.getElem?_eq_getElem (by omega)]
  rfl
theorem get_begin {k : Int} (hk : k ≠ B.next) : B.begin.get k = B.get k ∧ B.begin.all k = B.all k := by
  have : B.begin.all k = B.all k := by show eupd B.all B.next _ k = _; unfold eupd; rw [if_neg hk]
  exact ⟨by unfold Bk.get; rw [this], this⟩
theorem get_beginN : B.begin.get B.next = (1, B.step + 1, 0) ∧ B.begin.all B.next = some (1, B.step + 1, 0) := by
  have : B.begin.all B.next = some (1, B.step + 1, 0) := by show eupd B.all B.next _ B.next = _; unfold eupd; rw [if_pos rfl]
  exact ⟨bget_some this, this⟩
theorem Rel.begin (h : Rel B R) (hm : B.next ≤ B.most) : Rel B.begin R.begin := by
  have hl := h.len
  have n1 := h.ok.n1
  have hf := h.ok.f2
  have hf1 := h.ok.f1
  have hN : B.begin.next = B.next + 1 := rfl
  have hS : B.begin.step = B.step + 1 := rfl
  have hF : B.begin.first = B.first := rfl
  have s0 := h.ok.s0
  have hbl : (R.begin.l.length : Int) = B.next + 1 := by show ((R.l ++ [_]).length : Int) = _; rw [List.length_append]; simp; omega
  refine ⟨begin_ok' h.ok hm, hbl, h.most, ?_, fun t t1 t2 => ?_, fun t t1 t2 => ?_, fun x hx => ?_, fun t t1 t2 => ?_, fun k e hk hlt => ?_, fun k e hk hge => ?_, fun k k1 k2 => ?_, fun u t u1 ut t2 => ?_⟩
  · rw [tx_old R (by omega) (by omega)]; exact h.zero
  · by_cases he : t = B.next
    · subst he
      rw [tx_new R (by omega), bstate_some (by omega) t2 get_beginN.2]
    · rw [tx_old R (by omega) (by omega), h.st t t1 (by omega)]
      unfold Bk.state
      rw [if_neg (by omega), if_neg (by omega), (get_begin he).2]
  · by_cases he : t = B.next
    · subst he
      rw [tx_new R (by omega)]
      exact (decide_eq_false (by omega)).symm
    · rw [tx_old R t1 (by omega), h.old t t1 (by omega), hF]
  · have hx2 : x ∈ R.l ++ [_] := hx
    have e2 : R.begin.l.length = R.l.length + 1 := by show (R.l ++ [_]).length = _; simp
    rcases List.mem_append.1 hx2 with hx3 | hx3
    · have := h.short x hx3; omega
    · rw [List.mem_singleton.1 hx3, e2]; simp
  · by_cases he : t = B.next
    · subst he
      rw [tx_new R (by omega)]
      refine ⟨by simp; omega, fun u u1 u2 => ?_⟩
      rw [(get_begin (by omega)).1, get_beginN.1]
      simp only
      rw [List.getElem?_map, rtx_get R (by omega) (by omega)]
      simp only [Option.map_some, Option.getD_some]
      rw [h.st u u1 u2]
      cases ha : B.all u with
      | none => rw [bstate_none u1 u2 ha, bget_none ha]; rfl
      | some e =>
        rw [bstate_some u1 u2 ha, bget_some ha]
        by_cases h2 : e.1 = 2
        · have : e.2.2 < B.step + 1 := by
            rcases Int.lt_or_le u B.first with h3 | h3
            · rw [h.olde u e ha h3]; show (0 : Int) < _; omega
            · have := ((h.ent u e ha h3).2.2.2 (by omega)).2; omega
          rw [decide_eq_true this, Bool.and_true]
        · rw [show (e.1 == 2) = false by simpa using h2, Bool.false_and]
    · obtain ⟨a, b⟩ := h.seen t t1 (by omega)
      rw [tx_old R (by omega) (by omega)]
      refine ⟨a, fun u u1 u2 => ?_⟩
      rw [(get_begin (by omega)).1, (get_begin he).1]
      exact b u u1 u2
  · have hne : k ≠ B.next := by rw [hF] at hlt; omega
    rw [(get_begin hne).2] at hk
    exact h.olde k e hk hlt
  · by_cases he : k = B.next
    · subst he
      rw [get_beginN.2] at hk
      obtain rfl := Option.some.inj hk
      exact ⟨.inl rfl, by show 1 ≤ B.step + 1; omega, Int.le_refl _, fun hh => absurd rfl hh⟩
    · rw [(get_begin he).2] at hk
      obtain ⟨a, b, c, d⟩ := h.ent k e hk hge
      exact ⟨a, b, by omega, fun hh => ⟨(d hh).1, by have := (d hh).2; omega⟩⟩
  · by_cases he : k = B.next
    · subst he; exact ⟨_, get_beginN.2⟩
    · rw [(get_begin he).2]; exact h.full k k1 (by omega)
  · rw [(get_begin (by omega)).1]
    by_cases he : t = B.next
    · subst he
      rw [get_beginN.1]
      obtain ⟨e, hk⟩ := h.full u u1 (by omega)
      rw [bget_some hk]
      have := (h.ent u e hk u1).2.2.1
      show e.2.1 < B.step + 1; omega
    · rw [(get_begin he).1]; exact h.rise u t u1 ut (by omega)
theorem tx_fin (R : RBk) {t s k : Int} (h0 : 0 ≤ t) (h1 : t < R.l.length) (hk : 0 ≤ k) : (R.fin t s).tx k = if k = t then { R.tx t with st := s } else R.tx k := by
  unfold RBk.fin
  conv => lhs; unfold RBk.tx
  simp only
  by_cases h : k = t
  · subst h
    rw [if_pos rfl, List.getElem?_set_self (by omega)]
    rfl
  · rw [if_neg h, List.getElem?_set_ne (by omega)]
    rfl
theorem get_finR (t s k : Int) : (B.fin t s).get k = if k = t then (s, (B.get t).2.1, B.step + 1) else B.get k := by
  show (eupd B.all t _ k).getD _ = _
  unfold eupd
  by_cases h : k = t
  · rw [if_pos h, if_pos h]; rfl
  · rw [if_neg h, if_neg h]; rfl
theorem all_finR (t s k : Int) : (B.fin t s).all k = if k = t then some (s, (B.get t).2.1, B.step + 1) else B.all k := rfl
theorem Rel.fin (h : Rel B R) {t s : Int} (hs : s = 2 ∨ s = 3) (ht : (B.get t).1 = 1) : Rel (B.fin t s) (R.fin t s) := by
  have hl := h.len
  have n1 := h.ok.n1
  have hd := get_dom h.ok (t := t) (by rw [ht]; decide)
  have hfl : (R.fin t s).l.length = R.l.length := by show (R.l.set _ _).length = _; simp
  have hsome : ∃ e, B.all t = some e ∧ e.1 = 1 := by
    cases ha : B.all t with
    | none => rw [bget_none ha] at ht; exact absurd ht (by decide)
    | some e => rw [bget_some ha] at ht; exact ⟨e, rfl, ht⟩
  obtain ⟨e, he, he1⟩ := hsome
  have hft : B.first ≤ t := by
    rcases Int.lt_or_le t B.first with h3 | h3
    · rw [h.olde t e he h3] at he1; exact absurd he1 (by decide)
    · exact h3
  obtain ⟨_, eb, ec, _⟩ := h.ent t e he hft
  have hg := bget_some he
  have hbg : ∀ k, ((B.fin t s).get k).2.1 = (B.get k).2.1 := fun k => by
    rw [get_finR]
    by_cases hk : k = t
    · rw [if_pos hk, hk]
    · rw [if_neg hk]
  refine ⟨fin_ok' h.ok ht, by rw [hfl]; exact h.len, h.most, ?_, fun k k1 k2 => ?_, fun k k1 k2 => ?_, fun x hx => ?_, fun k k1 k2 => ?_, fun k e' hk hlt => ?_, fun k e' hk hge => ?_, fun k k1 k2 => ?_, fun u k u1 uk k2 => ?_⟩
  · rw [tx_fin R (by omega) (by omega) (by omega), if_neg (by omega)]; exact h.zero
  · have k2' : k < B.next := k2
    rw [tx_fin R (by omega) (by omega) (by omega)]
    by_cases hk : k = t
    · rw [if_pos hk, bstate_some k1 k2 (by rw [all_finR, if_pos hk])]
    · rw [if_neg hk, h.st k k1 k2']
      unfold Bk.state
      rw [if_neg (by omega), if_neg (fun hh => by rcases hh with hh | hh; omega; have : B.next ≤ k := hh; omega), all_finR, if_neg hk]
  · have k2' : k < B.next := k2
    rw [tx_fin R (by omega) (by omega) (by omega)]
    by_cases hk : k = t
    · rw [if_pos hk, hk]; exact h.old t (by omega) (by omega)
    · rw [if_neg hk]; exact h.old k k1 k2'
  · rw [hfl]
    rcases List.mem_or_eq_of_mem_set (show x ∈ R.l.set _ _ from hx) with hx2 | rfl
    · exact h.short x hx2
    · have hm : R.tx t ∈ R.l := List.mem_of_getElem? (rtx_get R (by omega) (by omega))
      exact h.short (R.tx t) hm
  · have k2' : k < B.next := k2
    obtain ⟨a, b⟩ := h.seen k k1 k2'
    rw [tx_fin R (by omega) (by omega) (by have := h.ok.f1; have : B.first ≤ k := k1; omega)]
    have hsn : (if k = t then { R.tx t with st := s } else R.tx k).seen = (R.tx k).seen := by
      by_cases hk : k = t
      · rw [if_pos hk, hk]
      · rw [if_neg hk]
    rw [hsn]
    refine ⟨a, fun u u1 u2 => ?_⟩
    rw [b u u1 u2, hbg, get_finR]
    by_cases hu : u = t
    · subst hu
      rw [if_pos rfl, ht]
      obtain ⟨e2, hk2⟩ := h.full k k1 k2'
      have := (h.ent k e2 hk2 k1).2.2.1
      rw [bget_some hk2]
      rw [decide_eq_false (show ¬ (B.step + 1 < e2.2.1) by omega), Bool.and_false]
      rfl
    · rw [if_neg hu]
  · have hlt' : k < B.first := hlt
    rw [all_finR, if_neg (by omega)] at hk
    exact h.olde k e' hk hlt'
  · have hS : (B.fin t s).step = B.step + 1 := rfl
    rw [all_finR] at hk
    by_cases hkt : k = t
    · rw [if_pos hkt, hg] at hk
      obtain rfl := Option.some.inj hk
      refine ⟨?_, eb, by rw [hS]; show e.2.1 ≤ _; omega, fun _ => ⟨by show e.2.1 < B.step + 1; omega, by rw [hS]; exact Int.le_refl _⟩⟩
      rcases hs with rfl | rfl
      · exact .inr (.inl rfl)
      · exact .inr (.inr rfl)
    · rw [if_neg hkt] at hk
      obtain ⟨a, b, c, d⟩ := h.ent k e' hk hge
      exact ⟨a, b, by omega, fun hh => ⟨(d hh).1, by have := (d hh).2; omega⟩⟩
  · rw [all_finR]
    by_cases hkt : k = t
    · rw [if_pos hkt]; exact ⟨_, rfl⟩
    · rw [if_neg hkt]; exact h.full k k1 k2
  · rw [hbg, hbg]; exact h.rise u k u1 uk k2
theorem Rel.start {nx mo : Int} {V : Nat → Int} {len : Nat} (h : NewOk nx mo V len) : Rel (Bk.start nx mo V len) (RBk.start nx mo V len) := by
  have n1 := h.n1
  have hl : ((RBk.start nx mo V len).l.length : Int) = nx := by unfold RBk.start; simp; omega
  have htx : ∀ t : Int, 0 ≤ t → t < nx → (RBk.start nx mo V len).tx t = ⟨if t = 0 then 0 else if isIn V len t then 2 else 3, [], true⟩ := fun t t0 t1 => by
    unfold RBk.tx RBk.start
    simp only
    rw [List.getElem?_map, List.getElem?_range (by omega)]
    simp only [Option.map_some, Option.getD_some]
    rw [show ((t.toNat : Nat) : Int) = t by omega]
    have : (t.toNat = 0) = (t = 0) := by apply propext; omega
    simp only [this]
  have hnx : (Bk.start nx mo V len).next = nx := rfl
  have hfs : (Bk.start nx mo V len).first = nx := rfl
  have hall : ∀ k e, (Bk.start nx mo V len).all k = some e → e = (2, 0, 0) ∧ 1 ≤ k ∧ k < nx := fun k e hk => by
    have hk2 : marks V len k = some e := hk
    unfold marks at hk2
    split at hk2
    · rename_i hin
      obtain ⟨i, hi, hv⟩ := (isIn_iff V len k).1 hin
      have := h.all i hi
      unfold outOf at this
      simp at this
      exact ⟨(Option.some.inj hk2).symm, by omega, by omega⟩
    · cases hk2
  refine ⟨⟨h.n1, h.n2, h.m1, Int.le_refl _, h.n1, Int.le_refl _, fun k e hk => (hall k e hk).2⟩, hl, rfl, ?_, fun t t1 t2 => ?_, fun t t1 t2 => ?_, fun x hx => ?_, fun t t1 t2 => ?_, fun k e hk _ => (hall k e hk).1, fun k e hk hge => ?_, fun k k1 k2 => ?_, fun u t u1 ut t2 => ?_⟩
  · rw [htx 0 (by omega) (by omega)]; rfl
  · rw [htx t (by omega) (by omega)]
    have hst : (Bk.start nx mo V len).state t = (match marks V len t with | some e => e.1 | none => 3) := by
      unfold Bk.state
      rw [if_neg (by rw [hnx] at t2 ⊢; omega)]
      rfl
    rw [hst]
    show (if t = 0 then (0 : Int) else if isIn V len t then 2 else 3) = _
    rw [if_neg (by omega)]
    unfold marks
    split <;> rfl
  · rw [htx t (by omega) (by omega), hfs]
    exact (decide_eq_true (by omega)).symm
  · obtain ⟨i, _, rfl⟩ := List.mem_map.1 (show x ∈ (List.range nx.toNat).map _ from hx)
    exact Nat.zero_le _
  · omega
  · have := (hall k e hk).2; omega
  · omega
  · omega
theorem Rel.one (h : Rel B R) (t : Int) : R.state t = 1 ↔ (B.get t).1 = 1 := by
  rw [h.state]
  constructor
  · intro h1
    have d := bstate_dom (B := B) (t := t) (by omega)
    cases ha : B.all t with
    | none => rw [bstate_none d.1 d.2 ha] at h1; omega
    | some e => rw [bstate_some d.1 d.2 ha] at h1; rw [bget_some ha]; exact h1
  · intro h1
    have d := get_dom h.ok (t := t) (by omega)
    cases ha : B.all t with
    | none => rw [bget_none ha] at h1; exact absurd h1 (by decide)
    | some e => rw [bget_some ha] at h1; rw [bstate_some d.1 d.2 ha]; exact h1
def RBk.endR (R : RBk) (t : Int) : Int := if R.state t = 1 then 0 else 41
def RBk.endB (R : RBk) (t s : Int) : RBk := if R.state t = 1 then R.fin t s else R
def RBk.beginB (R : RBk) : RBk := if R.most < R.l.length then R else R.begin
def RBk.beginR (R : RBk) : Int × Int := if R.most < R.l.length then (0, 23) else (R.l.length, 0)
theorem Rel.endR (h : Rel B R) (t : Int) : R.endR t = B.endR t := by
  unfold RBk.endR Bk.endR
  by_cases h1 : (B.get t).1 = 1
  · rw [if_pos ((h.one t).2 h1), if_pos h1]
  · rw [if_neg (fun hh => h1 ((h.one t).1 hh)), if_neg h1]
theorem Rel.endB (h : Rel B R) (t : Int) {s : Int} (hs : s = 2 ∨ s = 3) : Rel (B.endB t s) (R.endB t s) := by
  unfold RBk.endB Bk.endB
  by_cases h1 : (B.get t).1 = 1
  · rw [if_pos ((h.one t).2 h1), if_pos h1]; exact h.fin hs h1
  · rw [if_neg (fun hh => h1 ((h.one t).1 hh)), if_neg h1]; exact h
theorem endB_same (t s : Int) : (B.endB t s).step ≤ B.step + 1 ∧ (B.endB t s).most = B.most := by
  unfold Bk.endB
  split
  · exact ⟨Int.le_refl _, rfl⟩
  · exact ⟨by omega, rfl⟩
theorem Rel.restart (h : Rel B R) : NewOk B.next B.most (fun i => (B.list 2).getD i 0) (B.list 2).length := by
  refine ⟨h.ok.n1, by have := h.ok.n1; have := h.ok.n2; omega, h.ok.m1, h.ok.n2, fun i hi => ?_⟩
  have hm : (B.list 2)[i]'hi ∈ B.list 2 := List.getElem_mem hi
  have he : (B.list 2).getD i 0 = (B.list 2)[i]'hi := by rw [List.getD_eq_getElem?_getD, List.getElem?_eq_getElem hi]; rfl
  have h3 : (B.get ((B.list 2).getD i 0)).1 = 2 := by
    rw [he]
    have h2 : ((B.get ((B.list 2)[i]'hi)).1 == 2) = true := (List.mem_filter.1 (show (B.list 2)[i]'hi ∈ (upto B.next).filter _ from hm)).2
    exact eq_of_beq h2
  have d := get_dom h.ok (t := (B.list 2).getD i 0) (by rw [h3]; decide)
  unfold outOf
  rw [decide_eq_false (by omega), decide_eq_false (by omega)]
  rfl
end
end Go.Proofs.Ytkneldeemlngkaa
