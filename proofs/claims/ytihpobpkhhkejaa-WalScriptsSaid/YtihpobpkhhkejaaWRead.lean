/-
  Rows of bytes that came in, read within a walk. No condition beyond each lemma's own.
-/
import Derived.Test.YtihpobpkhhkejaaWAwake
set_option autoImplicit false
namespace Go.Proofs.Ytihpobpkhhkejaa
open Go Go.RowKit

theorem RecsR.len {w : World} {Z : Nat → Prop} {ao : Option Addr} {n c : Nat} {rs : List (List Int)} (h : RecsR w Z (.slice ao n c) rs) : n = rs.length := by
  obtain ⟨_, ao', c', e, _⟩ := h
  simp only [Value.slice.injEq] at e
  exact e.2.1
theorem RecsR.chg {w w' : World} {Z G : Nat → Prop} {v : Value} {rs : List (List Int)} (h : RecsR w Z v rs) (c : Chg G w w') (hz : ∀ k, G k → Z k) : RecsR w' Z v rs := by
  obtain ⟨h2, ao, cc, rfl, h3⟩ := h
  refine ⟨h2, ao, cc, rfl, fun hp => ?_⟩
  obtain ⟨b, o, rfl, ho, hc⟩ := h3 hp
  refine ⟨b, o, rfl, ⟨Nat.lt_of_lt_of_le ho.1 c.size, ho.2⟩, fun j hj => ?_⟩
  obtain ⟨u, hu, hb⟩ := hc j hj
  exact ⟨u, (cell_of_heap (c.keep b ho.1 (fun hg => ho.2 (hz b hg)))).trans hu, hb.chg c hz⟩
theorem RecsR.take {w : World} {Z : Nat → Prop} {ao : Option Addr} {n c : Nat} {rs : List (List Int)} (h : RecsR w Z (.slice ao n c) rs) (m c' : Nat) (hm : m ≤ rs.length) : RecsR w Z (.slice ao m c') (rs.take m) := by
  have hl : (rs.take m).length = m := by rw [List.length_take]; omega
  obtain ⟨h2, ao', cc, e, h3⟩ := h
  simp only [Value.slice.injEq] at e
  obtain ⟨rfl, rfl, rfl⟩ := e
  refine ⟨by omega, ao, c', by rw [hl], fun hp => ?_⟩
  obtain ⟨b, o, rfl, ho, hc⟩ := h3 (by omega)
  refine ⟨b, o, rfl, ho, fun j hj => ?_⟩
  obtain ⟨u, hu, hb⟩ := hc j (by omega)
  exact ⟨u, hu, by rw [List.getElem_take]; exact hb⟩
/-- element number k of rows that came in: its cell, and how it is read -/
theorem RecsR.at_ {w : World} {Z : Nat → Prop} {ao : Option Addr} {n c : Nat} {rs : List (List Int)} (h : RecsR w Z (.slice ao n c) rs) (k : Nat) (hk : k < rs.length) : ∃ b o ub un uc, ao = some ⟨b, o, none⟩ ∧ w.cell? ⟨b, o + k, none⟩ = some (.slice ub un uc) ∧ BytR w Z (.slice ub un uc) rs[k] ∧ b < w.heap.size ∧ ¬ Z b := by
  obtain ⟨h2, ao', cc, e, h3⟩ := h
  simp only [Value.slice.injEq] at e
  obtain ⟨rfl, rfl, rfl⟩ := e
  obtain ⟨b, o, rfl, ho, hc⟩ := h3 (by omega)
  obtain ⟨u, hu, hb⟩ := hc k hk
  obtain ⟨ub, un, uc, rfl⟩ : ∃ ub un uc, u = .slice ub un uc := by obtain ⟨_, _, ao, c, e, _⟩ := hb; exact ⟨ao, _, c, e⟩
  exact ⟨b, o, ub, un, uc, rfl, hu, hb, ho.1, ho.2⟩
theorem RecsM.form {w : World} {Z : Nat → Prop} {v : Value} {rs : List (List Int)} {us : List Value} (h : RecsM w Z v rs us) : ∃ ao c, v = .slice ao rs.length c ∧ rs.length ≤ c := by
  rcases h.row.2 with ⟨rfl, hn⟩ | ⟨g, cap, cur, rfl, hb, hg, r1, r2, r3, r4⟩
  · exact ⟨none, 0, by rw [hn], by omega⟩
  · exact ⟨_, cap, rfl, r1⟩
theorem Zn.other {w w' : World} {Z G : Nat → Prop} {d l : Nat} {D : Dsk} {L : Lg} (h : Zn w Z d l D L) (c : Chg G w w') (hG : ∀ k, G k → ¬ Z k) : Zn w' Z d l D L := h.chg c (fun k hk hg => hG k hg hk)
theorem LogUp.more {D : Dsk} {L : Lg} {rs : List (List Int)} {fl n m : Nat} (h : LogUp D L rs fl n) (hm : n ≤ m) (h2 : m < 1000000000000000000) : LogUp D L rs fl m :=
  ⟨h.live, h.st, h.len, h.ok, h.fle, h.wait, by have := h.cnt; omega, h2, h.room, h.size⟩
end Go.Proofs.Ytihpobpkhhkejaa
