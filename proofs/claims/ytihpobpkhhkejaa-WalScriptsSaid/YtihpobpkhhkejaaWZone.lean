/-
  A disk and a log in a zone of memory of their own, and what lies outside it. No condition beyond each lemma's own.
-/
import Derived.Test.YtihpobpkhhkejaaWAbs
import Derived.Test.YtihpobpkhhkejaaRead
set_option autoImplicit false
namespace Go.Proofs.Ytihpobpkhhkejaa
open Go Go.RowKit

/-- what a step may have turned: the zone, and it takes in new blocks alone -/
structure Grow (Z : Nat → Prop) (w : World) (Z' : Nat → Prop) (w' : World) : Prop where
  chg : Chg Z w w'
  new : ∀ k, Z' k → Z k ∨ w.heap.size ≤ k
theorem Grow.refl (Z : Nat → Prop) (w : World) : Grow Z w Z w := ⟨Chg.refl _ _, fun _ h => .inl h⟩
theorem Grow.trans {Z Z' Z'' : Nat → Prop} {w w' w'' : World} (h : Grow Z w Z' w') (k : Grow Z' w' Z'' w'') : Grow Z w Z'' w'' :=
  ⟨h.chg.trans k.chg h.new, fun x hx => by
    rcases k.new x hx with h1 | h1
    · exact h.new x h1
    · exact .inr (Nat.le_trans h.chg.size h1)⟩
theorem Grow.alloc {Z Z' : Nat → Prop} {w w' : World} (h : Grow Z w Z' w') (o : Obj) : Grow Z w Z' (w'.alloc o) := ⟨h.chg.alloc o, h.new⟩
theorem Grow.drew {Z Z' : Nat → Prop} {w w' : World} (h : Grow Z w Z' w') : Grow Z w Z' w'.drew := ⟨h.chg.drew, h.new⟩
theorem Grow.quiet {Z Z' : Nat → Prop} {w w' w'' : World} (h : Grow Z w Z' w') (c : Chg (fun _ => False) w' w'') : Grow Z w Z' w'' := ⟨h.chg.trans c (fun _ h => h.elim), h.new⟩
/-- a block of the world outside the zone -/
def Out (w : World) (Z : Nat → Prop) (k : Nat) : Prop := k < w.heap.size ∧ ¬ Z k
theorem Grow.out {Z Z' : Nat → Prop} {w w' : World} {k : Nat} (h : Grow Z w Z' w') (ho : Out w Z k) : Out w' Z' k :=
  ⟨Nat.lt_of_lt_of_le ho.1 h.chg.size, fun hz => by
    rcases h.new k hz with h1 | h1
    · exact ho.2 h1
    · have := ho.1; omega⟩
theorem Grow.heap {Z Z' : Nat → Prop} {w w' : World} {k : Nat} (h : Grow Z w Z' w') (ho : Out w Z k) : w'.heap[k]? = w.heap[k]? := h.chg.keep k ho.1 ho.2
/-- bytes that somebody else owns -/
def BytR (w : World) (Z : Nat → Prop) (v : Value) (xs : List Int) : Prop :=
  Bytes xs ∧ xs.length ≤ maxLen ∧ ∃ ao c, v = .slice ao xs.length c ∧ (0 < xs.length → ∃ b o, ao = some ⟨b, o, none⟩ ∧ Out w Z b ∧ ∀ j, (h : j < xs.length) → w.cell? ⟨b, o + j, none⟩ = some (.int .u8 xs[j]))
theorem BytR.grow {Z Z' : Nat → Prop} {w w' : World} {v : Value} {xs : List Int} (h : BytR w Z v xs) (g : Grow Z w Z' w') : BytR w' Z' v xs := by
  obtain ⟨h1, h2, ao, c, rfl, h3⟩ := h
  refine ⟨h1, h2, ao, c, rfl, fun hp => ?_⟩
  obtain ⟨b, o, rfl, ho, hc⟩ := h3 hp
  exact ⟨b, o, rfl, g.out ho, fun j hj => (cell_of_heap (g.heap ho)).trans (hc j hj)⟩
theorem BytR.nil (w : World) (Z : Nat → Prop) : BytR w Z (.slice none 0 0) [] := ⟨fun _ h => (by cases h), by simp [maxLen], none, 0, rfl, fun h => by simp at h⟩
/-- rows of bytes -/
def RecsR (w : World) (Z : Nat → Prop) (v : Value) (rs : List (List Int)) : Prop :=
  rs.length ≤ maxLen ∧ ∃ ao c, v = .slice ao rs.length c ∧ (0 < rs.length → ∃ b o, ao = some ⟨b, o, none⟩ ∧ Out w Z b ∧ ∀ j, (h : j < rs.length) → ∃ u, w.cell? ⟨b, o + j, none⟩ = some u ∧ BytR w Z u rs[j])
theorem RecsR.grow {Z Z' : Nat → Prop} {w w' : World} {v : Value} {rs : List (List Int)} (h : RecsR w Z v rs) (g : Grow Z w Z' w') : RecsR w' Z' v rs := by
  obtain ⟨h2, ao, c, rfl, h3⟩ := h
  refine ⟨h2, ao, c, rfl, fun hp => ?_⟩
  obtain ⟨b, o, rfl, ho, hc⟩ := h3 hp
  refine ⟨b, o, rfl, g.out ho, fun j hj => ?_⟩
  obtain ⟨u, hu, hb⟩ := hc j hj
  exact ⟨u, (cell_of_heap (g.heap ho)).trans hu, hb.grow g⟩
theorem RecsR.nil (w : World) (Z : Nat → Prop) : RecsR w Z (.slice none 0 0) [] := ⟨by simp [maxLen], none, 0, rfl, fun h => by simp at h⟩
theorem BytR.weaken {Z Z' : Nat → Prop} {w : World} {v : Value} {xs : List Int} (h : BytR w Z v xs) (hz : ∀ k, k < w.heap.size → Z' k → Z k) : BytR w Z' v xs := by
  obtain ⟨h1, h2, ao, c, rfl, h3⟩ := h
  refine ⟨h1, h2, ao, c, rfl, fun hp => ?_⟩
  obtain ⟨b, o, rfl, ho, hc⟩ := h3 hp
  exact ⟨b, o, rfl, ⟨ho.1, fun h => ho.2 (hz b ho.1 h)⟩, hc⟩
theorem BytR.chg {Z G : Nat → Prop} {w w' : World} {v : Value} {xs : List Int} (h : BytR w Z v xs) (c : Chg G w w') (hz : ∀ k, G k → Z k) : BytR w' Z v xs := by
  obtain ⟨h1, h2, ao, cc, rfl, h3⟩ := h
  refine ⟨h1, h2, ao, cc, rfl, fun hp => ?_⟩
  obtain ⟨b, o, rfl, ho, hc⟩ := h3 hp
  exact ⟨b, o, rfl, ⟨Nat.lt_of_lt_of_le ho.1 c.size, ho.2⟩, fun j hj => (cell_of_heap (c.keep b ho.1 (fun hg => ho.2 (hz b hg)))).trans (hc j hj)⟩
/-- rows of bytes that the call has made itself: they may be appended to -/
structure RecsM (w : World) (Z : Nat → Prop) (v : Value) (rs : List (List Int)) (us : List Value) : Prop where
  row : w.ownsRow 0 22 1 v rs.length us
  out : ∀ g, v.ownBlock = some g → ¬ Z g
  each : ∀ j, (h : j < rs.length) → ∃ u, us[j]? = some u ∧ BytR w (fun k => Z k ∨ v.ownBlock = some k) u rs[j]
theorem RecsM.outB {w : World} {Z : Nat → Prop} {v : Value} {rs : List (List Int)} {us : List Value} (h : RecsM w Z v rs us) {g : Nat} (hg : v.ownBlock = some g) : Out w Z g := ⟨ownsRow_lt h.row hg, h.out g hg⟩
theorem RecsM.read {w : World} {Z : Nat → Prop} {v : Value} {rs : List (List Int)} {us : List Value} (h : RecsM w Z v rs us) : RecsR w Z v rs := by
  have hlen := h.row.1
  rcases h.row.2 with ⟨rfl, hn⟩ | ⟨g, cap, cur, rfl, hb, hg, r1, r2, r3, r4⟩
  · refine ⟨by omega, none, 0, by rw [hn], fun h => by omega⟩
  · refine ⟨by omega, some ⟨g, 0, none⟩, cap, rfl, fun _ => ⟨g, 0, rfl, h.outB rfl, fun j hj => ?_⟩⟩
    obtain ⟨u, hu, hb⟩ := h.each j hj
    have := h.row.cells (g := g) rfl j u hu
    rw [Addr.add_mid] at this
    exact ⟨u, this, hb.weaken (fun k _ hk => .inl hk)⟩
theorem RecsM.nil (w : World) (Z : Nat → Prop) : RecsM w Z (.slice none 0 0) [] [] := ⟨World.ownsRow_nil _ _ _ _, fun g hg => by simp [Value.ownBlock] at hg, fun j hj => by simp at hj⟩
theorem RecsM.grow {Z Z' : Nat → Prop} {w w' : World} {v : Value} {rs : List (List Int)} {us : List Value} (h : RecsM w Z v rs us) (g : Grow Z w Z' w') : RecsM w' Z' v rs us :=
  ⟨ownsRow_chg h.row g.chg (fun k hk => h.out k hk), fun k hk => (g.out (h.outB hk)).2, fun j hj => by
    obtain ⟨u, hu, hb⟩ := h.each j hj
    refine ⟨u, hu, hb.grow ⟨g.chg.mono (fun _ h => .inl (.inl h)), fun k hk => ?_⟩⟩
    rcases hk with h1 | h1
    · rcases g.new k h1 with h2 | h2
      · exact .inl (.inl h2)
      · exact .inr h2
    · exact .inl (.inr h1)⟩
/-- a disk in the zone -/
structure Zd (w : World) (Z : Nat → Prop) (d : Nat) (D : Dsk) : Prop where
  disk : DiskAt w d Z D
  lt : ∀ k, Z k → k < w.heap.size
/-- a disk and a log over it in the zone -/
structure Zn (w : World) (Z : Nat → Prop) (d l : Nat) (D : Dsk) (L : Lg) : Prop where
  parts : ∃ A F, DiskAt w d A D ∧ LogAt w l d F L ∧ (∀ k, A k → Z k) ∧ (∀ k, F k → Z k) ∧ ∀ k, A k → ¬ F k
  lt : ∀ k, Z k → k < w.heap.size
theorem Zn.zd {w : World} {Z : Nat → Prop} {d l : Nat} {D : Dsk} {L : Lg} (h : Zn w Z d l D L) : Zd w Z d D := by
  obtain ⟨A, F, h1, h2, h3, h4, h5⟩ := h.parts
  exact ⟨h1.mono (fun k hk _ => h3 k hk), h.lt⟩
theorem Zn.ok {w : World} {Z : Nat → Prop} {d l : Nat} {D : Dsk} {L : Lg} (h : Zn w Z d l D L) : D.ok ∧ L.ok := by
  obtain ⟨A, F, h1, h2, h3, h4, h5⟩ := h.parts
  exact ⟨h1.ok, h2.ok⟩
theorem Zn.chg {w w' : World} {Z G : Nat → Prop} {d l : Nat} {D : Dsk} {L : Lg} (h : Zn w Z d l D L) (c : Chg G w w') (hG : ∀ k, Z k → ¬ G k) : Zn w' Z d l D L := by
  obtain ⟨A, F, h1, h2, h3, h4, h5⟩ := h.parts
  exact ⟨⟨A, F, h1.chg c (fun k hk => hG k (h3 k hk)), h2.chg c (fun k hk => hG k (h4 k hk)), h3, h4, h5⟩, fun k hk => Nat.lt_of_lt_of_le (h.lt k hk) c.size⟩
theorem Zd.chg {w w' : World} {Z G : Nat → Prop} {d : Nat} {D : Dsk} (h : Zd w Z d D) (c : Chg G w w') (hG : ∀ k, Z k → ¬ G k) : Zd w' Z d D :=
  ⟨h.disk.chg c hG, fun k hk => Nat.lt_of_lt_of_le (h.lt k hk) c.size⟩
theorem Zn.quiet {w w' : World} {Z : Nat → Prop} {d l : Nat} {D : Dsk} {L : Lg} (h : Zn w Z d l D L) (c : Chg (fun _ => False) w w') : Zn w' Z d l D L := h.chg c (fun _ _ h => h)
theorem Zd.quiet {w w' : World} {Z : Nat → Prop} {d : Nat} {D : Dsk} (h : Zd w Z d D) (c : Chg (fun _ => False) w w') : Zd w' Z d D := h.chg c (fun _ _ h => h)
/-- the disk has been worked on -/
theorem Zd.step {w w' : World} {Z : Nat → Prop} {d : Nat} {D D' : Dsk} (h : Zd w Z d D) (hd : DiskAt w' d (Ext Z w w') D') (c : Chg Z w w') : Zd w' (Ext Z w w') d D' ∧ Grow Z w (Ext Z w w') w' :=
  ⟨⟨hd, fun k hk => by
    rcases hk with h1 | h1
    · exact Nat.lt_of_lt_of_le (h.lt k h1) c.size
    · exact h1.2⟩, c, fun k hk => by
    rcases hk with h1 | h1
    · exact .inl h1
    · exact .inr h1.1⟩
/-- the disk has been worked on, a log stands beside it -/
theorem Zn.disk {w w' : World} {Z : Nat → Prop} {d l : Nat} {D : Dsk} {L : Lg} (h : Zn w Z d l D L) {D' : Dsk}
    (k : ∀ A, DiskAt w d A D → (∀ k, A k → Z k) → (DiskAt w' d (Ext A w w') D' ∧ Chg A w w')) : Zn w' (Ext Z w w') d l D' L ∧ Grow Z w (Ext Z w w') w' := by
  obtain ⟨A, F, h1, h2, h3, h4, h5⟩ := h.parts
  obtain ⟨k1, k2⟩ := k A h1 h3
  have c : Chg Z w w' := k2.mono (fun k hk => .inl (h3 k hk))
  have hlt : ∀ k, Ext Z w w' k → k < w'.heap.size := fun k hk => by
    rcases hk with h6 | h6
    · exact Nat.lt_of_lt_of_le (h.lt k h6) c.size
    · exact h6.2
  refine ⟨⟨⟨Ext A w w', F, k1, h2.chg k2 (fun k hk ha => h5 k ha hk), fun k hk => ?_, fun k hk => .inl (h4 k hk), fun k hk hf => ?_⟩, hlt⟩, c, fun k hk => ?_⟩
  · rcases hk with h6 | h6
    · exact .inl (h3 k h6)
    · exact .inr h6
  · rcases hk with h6 | h6
    · exact h5 k h6 hf
    · have := h.lt k (h4 k hf); omega
  · rcases hk with h6 | h6
    · exact .inl h6
    · exact .inr h6.1
/-- the log has been worked on -/
theorem Zn.log {w w' : World} {Z : Nat → Prop} {d l : Nat} {D : Dsk} {L : Lg} (h : Zn w Z d l D L) {L' : Lg}
    (k : ∀ A F, DiskAt w d A D → LogAt w l d F L → (∀ k, A k → ¬ F k) → (LogAt w' l d (Ext F w w') L' ∧ Chg F w w')) : Zn w' (Ext Z w w') d l D L' ∧ Grow Z w (Ext Z w w') w' := by
  obtain ⟨A, F, h1, h2, h3, h4, h5⟩ := h.parts
  obtain ⟨k1, k2⟩ := k A F h1 h2 h5
  have c : Chg Z w w' := k2.mono (fun k hk => .inl (h4 k hk))
  have hlt : ∀ k, Ext Z w w' k → k < w'.heap.size := fun k hk => by
    rcases hk with h6 | h6
    · exact Nat.lt_of_lt_of_le (h.lt k h6) c.size
    · exact h6.2
  refine ⟨⟨⟨A, Ext F w w', h1.chg k2 (fun k hk => h5 k hk), k1, fun k hk => .inl (h3 k hk), fun k hk => ?_, fun k hk hf => ?_⟩, hlt⟩, c, fun k hk => ?_⟩
  · rcases hk with h6 | h6
    · exact .inl (h4 k h6)
    · exact .inr h6
  · rcases hf with h6 | h6
    · exact h5 k hk h6
    · have := h.lt k (h3 k hk); omega
  · rcases hk with h6 | h6
    · exact .inl h6
    · exact .inr h6.1
end Go.Proofs.Ytihpobpkhhkejaa
