/-
  The plain law of MvccChain: what every snapshot sees of a chain of versions. No condition beyond each lemma's own.
-/
import Derived.Test.YtkneldeemlngkaaMBookD
import Derived.Test.YtkneldeemlngkaaIRow
set_option autoImplicit false
namespace Go.Proofs.Ytkneldeemlngkaa
open Go Go.RowKit

theorem get_some {B : Bk} {x : Int} {e : Ent} (h : B.all x = some e) : B.get x = e := by unfold Bk.get; rw [h]; rfl
theorem state_some {B : Bk} {x : Int} {e : Ent} (ok : B.ok) (h : B.all x = some e) : B.state x = e.1 := by
  have := ok.dom x e h
  unfold Bk.state; rw [if_neg (by omega), h]
theorem begin_all {B : Bk} (ok : B.ok) {x : Int} {e : Ent} (h : B.all x = some e) : B.begin.all x = some e := by
  have := ok.dom x e h
  show eupd B.all B.next _ x = _
  unfold eupd; rw [if_neg (by omega), h]
theorem begin_new (B : Bk) : B.begin.all B.next = some (1, B.step + 1, 0) := by
  show eupd B.all B.next _ B.next = _
  unfold eupd; rw [if_pos rfl]
theorem fin_all {B : Bk} {t s x : Int} (hx : x ≠ t) : (B.fin t s).all x = B.all x := by
  show eupd B.all t _ x = _
  unfold eupd; rw [if_neg hx]
theorem fin_new (B : Bk) (t s : Int) : (B.fin t s).all t = some (s, (B.get t).2.1, B.step + 1) := by
  show eupd B.all t _ t = _
  unfold eupd; rw [if_pos rfl]
structure ChainI (B : Bk) (made taken seen : List Int) (n s : Int) : Prop where
  first : B.first = 1
  most : B.most = 400
  next : B.next ≤ n
  step : B.step ≤ s
  tlen : taken.length = made.length
  link : ∀ (k : Nat), k + 1 < made.length → taken[k]? = made[k + 1]?
  last : ∀ (k : Nat), k + 1 = made.length → taken[k]? = some 0
  com : ∀ (k : Nat) (x : Int), made[k]? = some x → ∃ bg dn, B.all x = some (2, bg, dn) ∧ dn ≤ B.step
  inc : ∀ (k : Nat) (x y : Int), made[k]? = some x → made[k + 1]? = some y → (B.get x).2.2 < (B.get y).2.2
  seen : ∀ r ∈ seen, ∃ bg, B.all r = some (1, bg, 0)
theorem ChainI.start : ChainI { next := 1, most := 400, step := 0, first := 1, all := fun _ => none } [] [] [] 1 0 :=
  ⟨rfl, rfl, Int.le_refl _, Int.le_refl _, rfl, fun k h => by simp at h, fun k h => by simp at h, fun k x h => by simp at h, fun k x y h => by simp at h, fun r h => by simp at h⟩
theorem ChainI.begin {B : Bk} {made taken seen : List Int} {n s : Int} (h : ChainI B made taken seen n s) (ok : B.ok) : ChainI B.begin made taken seen (n + 1) (s + 1) := by
  have hg : ∀ x e, B.all x = some e → B.begin.get x = e := fun x e he => get_some (begin_all ok he)
  refine ⟨h.first, h.most, by have := h.next; show B.next + 1 ≤ _; omega, by have := h.step; show B.step + 1 ≤ _; omega, h.tlen, h.link, h.last, fun k x hx => ?_, fun k x y hx hy => ?_, fun r hr => ?_⟩
  · obtain ⟨bg, dn, h1, h2⟩ := h.com k x hx
    exact ⟨bg, dn, begin_all ok h1, by show dn ≤ B.step + 1; omega⟩
  · obtain ⟨bg, dn, h1, _⟩ := h.com k x hx
    obtain ⟨bg2, dn2, h2, _⟩ := h.com (k + 1) y hy
    have := h.inc k x y hx hy
    rw [get_some h1, get_some h2] at this
    rw [hg x _ h1, hg y _ h2]; exact this
  · obtain ⟨bg, h1⟩ := h.seen r hr
    exact ⟨bg, begin_all ok h1⟩
theorem ChainI.reader {B : Bk} {made taken seen : List Int} {n s : Int} (h : ChainI B made taken seen n s) (ok : B.ok) : ChainI B.begin made taken (seen ++ [B.next]) (n + 1) (s + 1) := by
  have h' := h.begin ok
  refine ⟨h'.first, h'.most, h'.next, h'.step, h'.tlen, h'.link, h'.last, h'.com, h'.inc, fun r hr => ?_⟩
  rcases List.mem_append.1 hr with hr | hr
  · exact h'.seen r hr
  · obtain rfl := List.mem_singleton.1 hr
    exact ⟨_, begin_new B⟩
/-- who has just begun -/
structure Fresh (B : Bk) (made seen : List Int) (t : Int) : Prop where
  act : ∃ bg, B.all t = some (1, bg, 0)
  nm : t ∉ made
  ns : t ∉ seen
theorem ChainI.fresh {B : Bk} {made taken seen : List Int} {n s : Int} (h : ChainI B made taken seen n s) (ok : B.ok) : Fresh B.begin made seen B.next := by
  refine ⟨⟨_, begin_new B⟩, fun hm => ?_, fun hm => ?_⟩
  · obtain ⟨k, hk, he⟩ := List.getElem_of_mem hm
    obtain ⟨bg, dn, h1, _⟩ := h.com k B.next (by rw [List.getElem?_eq_getElem hk, he])
    have := ok.dom _ _ h1
    omega
  · obtain ⟨bg, h1⟩ := h.seen _ hm
    have := ok.dom _ _ h1
    omega
theorem endB_eq {B : Bk} {t s bg : Int} (h : B.all t = some (1, bg, 0)) : B.endB t s = B.fin t s := by
  unfold Bk.endB; rw [if_pos (by rw [get_some h])]
theorem endR_eq {B : Bk} {t bg : Int} (h : B.all t = some (1, bg, 0)) : B.endR t = 0 := by
  unfold Bk.endR; rw [if_pos (by rw [get_some h])]
theorem ChainI.keepFin {B : Bk} {made taken seen : List Int} {n s t e : Int} (h : ChainI B made taken seen n s) (f : Fresh B made seen t) : ChainI (B.fin t e) made taken seen n (s + 1) := by
  have ha : ∀ (k : Nat) (x : Int), made[k]? = some x → x ≠ t := fun k x hx e => f.nm (e ▸ List.mem_of_getElem? hx)
  have hg : ∀ (k : Nat) (x : Int), made[k]? = some x → (B.fin t e).get x = B.get x := fun k x hx => by unfold Bk.get; rw [fin_all (ha k x hx)]
  refine ⟨h.first, h.most, h.next, by have := h.step; show B.step + 1 ≤ _; omega, h.tlen, h.link, h.last, fun k x hx => ?_, fun k x y hx hy => ?_, fun r hr => ?_⟩
  · obtain ⟨bg, dn, h1, h2⟩ := h.com k x hx
    exact ⟨bg, dn, by rw [fin_all (ha k x hx)]; exact h1, by show dn ≤ B.step + 1; omega⟩
  · rw [hg k x hx, hg (k + 1) y hy]; exact h.inc k x y hx hy
  · obtain ⟨bg, h1⟩ := h.seen r hr
    have hrt : r ≠ t := fun he => f.ns (by rw [← he]; exact hr)
    exact ⟨bg, by rw [fin_all hrt]; exact h1⟩
/-- taken, where one more is written -/
def take1 (taken : List Int) (t : Int) : List Int := (if 0 < taken.length then taken.set (taken.length - 1) t else taken) ++ [0]
theorem ChainI.push {B : Bk} {made taken seen : List Int} {n s t : Int} (h : ChainI B made taken seen n s) (f : Fresh B made seen t) : ChainI (B.fin t 2) (made ++ [t]) (take1 taken t) seen n (s + 1) := by
  have h' := h.keepFin (e := 2) f
  have hl : (take1 taken t).length = made.length + 1 := by unfold take1; split <;> simp [h.tlen]
  obtain ⟨bg, ha⟩ := f.act
  have hgt : (B.fin t 2).get t = (2, (B.get t).2.1, B.step + 1) := get_some (fin_new B t 2)
  refine ⟨h'.first, h'.most, h'.next, h'.step, by simp [hl], fun k hk => ?_, fun k hk => ?_, fun k x hx => ?_, fun k x y hx hy => ?_, h'.seen⟩
  · simp only [List.length_append, List.length_singleton] at hk
    have hpos : 0 < taken.length := by rw [h.tlen]; omega
    unfold take1
    rw [if_pos hpos, List.getElem?_append_left (by simp [h.tlen]; omega)]
    by_cases hk1 : k + 1 < made.length
    · rw [List.getElem?_set_ne (by rw [h.tlen]; omega), h.link k hk1, List.getElem?_append_left hk1]
    · have e : k + 1 = made.length := by omega
      rw [show taken.length - 1 = k by rw [h.tlen]; omega, List.getElem?_set_self (by rw [h.tlen]; omega), List.getElem?_append_right (by omega)]
      simp [e]
  · simp only [List.length_append, List.length_singleton] at hk
    unfold take1
    rw [List.getElem?_append_right (by split <;> simp [h.tlen] <;> omega)]
    have : k - (if 0 < taken.length then taken.set (taken.length - 1) t else taken).length = 0 := by split <;> simp [h.tlen] <;> omega
    rw [this]; rfl
  · by_cases hk : k < made.length
    · rw [List.getElem?_append_left hk] at hx
      exact h'.com k x hx
    · rw [List.getElem?_append_right (by omega)] at hx
      have : k - made.length = 0 := by
        rcases Nat.eq_zero_or_pos (k - made.length) with h0 | h0
        · exact h0
        · rw [List.getElem?_eq_none (by simp; omega)] at hx; cases hx
      rw [this] at hx
      simp at hx
      subst hx
      exact ⟨_, _, fin_new B t 2, by show B.step + 1 ≤ B.step + 1; omega⟩
  · have hkl : k < made.length := by
      rcases Nat.lt_or_ge k made.length with h0 | h0
      · exact h0
      · rw [List.getElem?_eq_none (by simp; omega)] at hy; cases hy
    rw [List.getElem?_append_left hkl] at hx
    by_cases hk : k + 1 < made.length
    · rw [List.getElem?_append_left hk] at hy
      exact h'.inc k x y hx hy
    · rw [List.getElem?_append_right (by omega)] at hy
      have : k + 1 - made.length = 0 := by omega
      rw [this] at hy
      simp at hy
      subst hy
      rw [hgt]
      obtain ⟨bg, dn, h1, h2⟩ := h.com k x hx
      have hxt : x ≠ t := fun e => f.nm (e ▸ List.mem_of_getElem? hx)
      have : (B.fin t 2).get x = (2, bg, dn) := by unfold Bk.get; rw [fin_all hxt, h1]; rfl
      rw [this]
      show dn < B.step + 1
      omega
/-- a beginning, told by its length -/
theorem begins (P : Nat → Bool) : ∀ (n : Nat), (∀ k, k + 1 < n → P (k + 1) = true → P k = true) → ∃ q, q ≤ n ∧ ∀ k, k < n → P k = decide (k < q)
  | 0, _ => ⟨0, Nat.le_refl _, fun k hk => by omega⟩
  | n + 1, h => by
    obtain ⟨q, hq, hk⟩ := begins P n (fun k hk => h k (by omega))
    by_cases hq2 : q = n
    · subst hq2
      cases hp : P q with
      | true => exact ⟨q + 1, Nat.le_refl _, fun k hk2 => by
          by_cases e : k = q
          · subst e; rw [hp]; simp
          · rw [hk k (by omega)]; simp; omega⟩
      | false => exact ⟨q, by omega, fun k hk2 => by
          by_cases e : k = q
          · subst e; rw [hp]; simp
          · exact hk k (by omega)⟩
    · refine ⟨q, by omega, fun k hk2 => ?_⟩
      by_cases e : k = n
      · subst e
        cases hp : P k with
        | false => symm; simpa using hq
        | true =>
          have := h (k - 1) (by omega) (by rw [show k - 1 + 1 = k by omega]; exact hp)
          rw [hk (k - 1) (by omega)] at this
          simp at this
          omega
      · exact hk k (by omega)
theorem ChainI.law {B : Bk} {made taken seen : List Int} {n s : Int} (h : ChainI B made taken seen n s) (ok : B.ok) {r : Int} (hr : r ∈ seen) :
    ∃ q, q ≤ made.length ∧ (∀ (k : Nat) (x : Int), made[k]? = some x → B.sees r x = decide (k < q)) ∧ (∀ (k : Nat) (x y : Int), made[k]? = some x → taken[k]? = some y → B.vers r x y = decide (k + 1 = q)) := by
  obtain ⟨bg, hbr⟩ := h.seen r hr
  have hsr : B.state r = 1 := state_some ok hbr
  have hr1 := ok.dom r _ hbr
  have hsee : ∀ (k : Nat) (x : Int), made[k]? = some x → B.sees r x = decide ((B.get x).2.2 < bg) := fun k x hx => by
    obtain ⟨b2, dn, h1, _⟩ := h.com k x hx
    have hsx : B.state x = 2 := state_some ok h1
    have hne : (r == x) = false := by
      have : r ≠ x := fun e => by rw [e] at hsr; omega
      simpa using this
    unfold Bk.sees
    rw [if_neg (by rw [hsr, hsx, h.first]; omega), hne, get_some h1, get_some hbr]
    rfl
  obtain ⟨q, hq, hp⟩ := begins (fun k => match made[k]? with | some x => decide ((B.get x).2.2 < bg) | none => false) made.length (fun k hk hp => by
    have e1 : made[k]? = some made[k] := List.getElem?_eq_getElem (by omega)
    have e2 : made[k + 1]? = some made[k + 1] := List.getElem?_eq_getElem hk
    simp only [e1, e2, decide_eq_true_eq] at hp ⊢
    have := h.inc k _ _ e1 e2
    omega)
  have hS : ∀ (k : Nat) (x : Int), made[k]? = some x → B.sees r x = decide (k < q) := fun k x hx => by
    have hk : k < made.length := (List.getElem?_eq_some_iff.1 hx).1
    have := hp k hk
    rw [hx] at this
    rw [hsee k x hx]
    exact this
  refine ⟨q, hq, hS, fun k x y hx hy => ?_⟩
  have hk : k < made.length := (List.getElem?_eq_some_iff.1 hx).1
  have hx0 : (x == 0) = false := by
    obtain ⟨b2, dn, h1, _⟩ := h.com k x hx
    have := ok.dom x _ h1
    have : x ≠ 0 := by omega
    simpa using this
  unfold Bk.vers
  rw [if_neg (by rw [hsr, h.first]; omega), hx0, hS k x hx, Bool.false_or]
  by_cases hk1 : k + 1 < made.length
  · rw [h.link k hk1] at hy
    rw [hS (k + 1) y hy, Bool.eq_iff_iff]
    simp
    omega
  · rw [h.last k (by omega)] at hy
    obtain rfl := Option.some.inj hy
    have : B.sees r 0 = false := by
      unfold Bk.sees
      rw [if_pos (.inr (.inl (by unfold Bk.state; rw [if_pos (.inl (by decide))])))]
    rw [this, Bool.eq_iff_iff]
    simp
    omega
/-! a store into a slice of numbers of one's own -/
theorem Ints.free {w : World} {lo : Nat} {v : Value} {xs : List Int} (h : Ints w lo v xs) {g : Nat} (hg : v.ownBlock = some g) (o : Nat) : w.frozen? ⟨g, o, none⟩ = false := by
  obtain ⟨cur, hc⟩ := ownsRow_heap h.row hg
  exact frozen_of_row w g o _ _ hc
theorem Ints.set {w : World} {lo : Nat} {v : Value} {xs : List Int} (h : Ints w lo v xs) {g : Nat} (hg : v.ownBlock = some g) (j : Nat) (y : Int) : Ints (w.setCell ⟨g, j, none⟩ (.int .i64 y)) lo v (xs.set j y) := by
  refine ⟨?_, h.lo⟩
  obtain ⟨hl, hr⟩ := h.row
  refine ⟨by simp, ?_⟩
  rcases hr with ⟨rfl, hn⟩ | ⟨g', cap, cur, rfl, hb, hgh, r1, r2, r3, r4⟩
  · simp [Value.ownBlock] at hg
  · have : g' = g := by simpa [Value.ownBlock] using hg
    subst this
    refine .inr ⟨g', cap, cur.setIfInBounds j (.int .i64 y), by rw [List.length_set], hb, hset_eq hgh, by simpa using r1, r2, by simpa using r3, ?_⟩
    rw [Array.toList_setIfInBounds, List.length_set, List.take_set, r4, List.map_set]
end Go.Proofs.Ytkneldeemlngkaa
