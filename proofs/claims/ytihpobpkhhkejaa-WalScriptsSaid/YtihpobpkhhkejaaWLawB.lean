/-
  The plain laws of the log's Flush and Reset, wherever the disk goes down. No condition beyond each lemma's own.
-/
import Derived.Test.YtihpobpkhhkejaaWLaw
set_option autoImplicit false
namespace Go.Proofs.Ytihpobpkhhkejaa
open Go Go.RowKit

theorem change_same (D : Dsk) : D.change.size = D.size ∧ D.change.now = D.now ∧ D.change.kept = D.kept ∧ D.change.wait = D.wait := by
  unfold Dsk.change
  split <;> exact ⟨rfl, rfl, rfl, rfl⟩
theorem write_same (D : Dsk) (n : Int) (s : Sec) : (D.write n s).size = D.size ∧ (D.write n s).now = upd D.now n s ∧ (D.write n s).kept = D.kept ∧ (D.write n s).wait = D.wait ++ [(n, s)] := by
  have := change_same (D.put n s)
  exact this
theorem sync_same (D : Dsk) : D.sync.size = D.size ∧ D.sync.now = D.now ∧ D.sync.kept = keepAll D.kept D.wait ∧ D.sync.wait = [] := by
  have := change_same ({ D with kept := keepAll D.kept D.wait, wait := [] } : Dsk)
  exact this
theorem calm_change {D : Dsk} (h : D.calm) : D.change.calm := by rw [h.change]; exact h
theorem calm_write {D : Dsk} (h : D.calm) (n : Int) (s : Sec) : (D.write n s).calm := calm_change (D := D.put n s) h
theorem calm_sync {D : Dsk} (h : D.calm) : D.sync.calm := calm_change (D := { D with kept := keepAll D.kept D.wait, wait := [] }) h
/-- so many of the writes are done -/
structure Wrote (D D' : Dsk) (l : List (Int × Sec)) : Prop where
  size : D'.size = D.size
  now : D'.now = keepAll D.now l
  kept : D'.kept = D.kept
  wait : D'.wait = D.wait ++ l
theorem wrs_spec : ∀ (l : List (Int × Sec)) (D : Dsk), ∃ m, Wrote D (D.wrs l).1 (l.take m) ∧ ((D.wrs l).2 = true → l.take m = l) ∧ ((D.wrs l).2 = false → (D.wrs l).1.down = true)
  | [], D => ⟨0, ⟨rfl, rfl, rfl, by simp [Dsk.wrs]⟩, fun _ => rfl, fun h => by simp [Dsk.wrs] at h⟩
  | x :: l, D => by
    unfold Dsk.wrs
    by_cases hd : D.down = true
    · rw [if_pos hd]
      exact ⟨0, ⟨rfl, rfl, rfl, by simp⟩, fun h => by simp at h, fun _ => hd⟩
    · rw [if_neg hd]
      obtain ⟨m, h1, h2, h3⟩ := wrs_spec l (D.write x.1 x.2)
      obtain ⟨w1, w2, w3, w4⟩ := write_same D x.1 x.2
      refine ⟨m + 1, ⟨h1.size.trans w1, ?_, h1.kept.trans w3, ?_⟩, fun h => by rw [List.take_succ_cons, h2 h], h3⟩
      · rw [h1.now, w2, List.take_succ_cons]; rfl
      · rw [h1.wait, w4, List.take_succ_cons]; simp
theorem wrs_calm : ∀ (l : List (Int × Sec)) (D : Dsk), D.calm → (D.wrs l).2 = true ∧ (D.wrs l).1.calm
  | [], D, h => ⟨rfl, h⟩
  | x :: l, D, h => by
    unfold Dsk.wrs
    rw [if_neg (by rw [h.2]; decide)]
    exact wrs_calm l _ (calm_write h _ _)

/-- a log at work on a disk that is up -/
structure Live (D : Dsk) (L : Lg) (P : List Int) : Prop where
  down : D.down = false
  wait : D.wait = []
  same : D.now = D.kept
  dur : Dur D.kept L.cnt P
  pre : P = L.st.take L.len.toNat
  len : L.len.toNat ≤ L.st.length
  s1 : L.st.length ≤ 4194304
  cnt : L.cnt + 1 < 18446744073709551616
/-- what a head's write or a flush has come to: the log L' and sectors of stream Q, or a disk that is down on which either is found -/
structure Done (D D' : Dsk) (L L' : Lg) (Q : List Int) : Prop where
  wait : D'.wait = []
  same : D'.now = D'.kept
  dur : Dur D'.kept (L.cnt + 1) Q
  log : L' = { cnt := L.cnt + 1, len := Q.length, st := Q, wait := 0 }
  size : D'.size = D.size
structure Fell (D D' : Dsk) (L : Lg) (P Q : List Int) : Prop where
  down : D'.down = true
  sync : Synced D'
  mix : ∀ g, Mix D'.kept D'.wait g → Dur g L.cnt P ∨ Dur g (L.cnt + 1) Q
  size : D'.size = D.size
theorem seal_out {D : Dsk} {L : Lg} {P : List Int} (h : Live D L P) (n : Nat) (hn : n ≤ L.st.length) (hq : Has D.kept (L.st.take n)) :
    ((sealR D L n).1 = 0 ∧ Done D (sealR D L n).2.1 L (sealR D L n).2.2 (L.st.take n)) ∨
    ((sealR D L n).1 = 24 ∧ (sealR D L n).2.2 = L ∧ Fell D (sealR D L n).2.1 L P (L.st.take n)) := by
  have hl : (L.st.take n).length = n := by rw [List.length_take]; omega
  have hu : up64 L.cnt = L.cnt + 1 := by unfold up64; have := h.dur.c0; have := h.cnt; omega
  have hdh := dur_head h.dur hq h.cnt (by rw [hl]; have := h.s1; omega)
  rw [hl] at hdh
  unfold sealR
  rw [if_neg (by rw [h.down]; decide), hu]
  obtain ⟨w1, w2, w3, w4⟩ := write_same D ((L.cnt + 1) % 2) (headSec (L.cnt + 1) n)
  generalize hs : headSec (L.cnt + 1) n = hsec at *
  generalize D.write ((L.cnt + 1) % 2) hsec = D1 at *
  rw [h.wait, List.nil_append] at w4
  by_cases hd1 : D1.down = true
  · rw [if_pos hd1]
    refine .inr ⟨rfl, rfl, hd1, ?_, fun g hg => ?_, w1⟩
    · unfold Synced
      rw [w3, w4, w2, h.same]
      rfl
    · rw [w3, w4] at hg
      by_cases hx : g ((L.cnt + 1) % 2) = D.kept ((L.cnt + 1) % 2)
      · have : g = D.kept := funext fun x => by
          rcases hg x with h1 | h1
          · exact h1
          · simp only [List.mem_singleton, Prod.mk.injEq] at h1
            rw [h1.1]; exact hx
        rw [this]; exact .inl h.dur
      · have : g = upd D.kept ((L.cnt + 1) % 2) hsec := funext fun x => by
          unfold upd
          by_cases hxe : x = (L.cnt + 1) % 2
          · rw [if_pos hxe]
            rcases hg x with h1 | h1
            · rw [hxe] at h1; exact absurd h1 hx
            · simp only [List.mem_singleton, Prod.mk.injEq] at h1
              exact h1.2
          · rw [if_neg hxe]
            rcases hg x with h1 | h1
            · exact h1
            · simp only [List.mem_singleton, Prod.mk.injEq] at h1
              exact absurd h1.1 hxe
        rw [this]; exact .inr hdh
  · rw [if_neg hd1]
    obtain ⟨s1, s2, s3, s4⟩ := sync_same D1
    have hk : D1.sync.kept = upd D.kept ((L.cnt + 1) % 2) hsec := by rw [s3, w3, w4]; rfl
    refine .inl ⟨rfl, s4, ?_, by rw [hk]; exact hdh, by rw [hl], s1.trans w1⟩
    rw [s2, w2, hk, h.same]
theorem flush_out {D : Dsk} {L : Lg} {P : List Int} (h : Live D L P) (h0 : L.wait ≠ 0) :
    ((flushR D L).1 = 0 ∧ Done D (flushR D L).2.1 L (flushR D L).2.2 L.st) ∨
    ((flushR D L).1 = 24 ∧ (flushR D L).2.2 = L ∧ Fell D (flushR D L).2.1 L P L.st) := by
  obtain ⟨m, wm, hm1, hm2⟩ := wrs_spec L.todo D
  have hW : ∀ y ∈ L.todo.take m, ∃ i : Nat, y = ((i : Int) + 2, secAt L.st i) := fun y hy => todo_is L y (List.mem_of_mem_take hy)
  have hpre : Dur D.kept L.cnt (L.st.take L.len.toNat) := by rw [← h.pre]; exact h.dur
  have fell : (D.wrs L.todo).1.down = true → Fell D (D.wrs L.todo).1 L P L.st := fun hd => by
    refine ⟨hd, ?_, fun g hg => ?_, wm.size⟩
    · unfold Synced
      rw [wm.kept, wm.wait, wm.now, h.wait, List.nil_append, h.same]
    · rw [wm.kept, wm.wait, h.wait, List.nil_append] at hg
      rw [h.pre]
      exact .inl (dur_mix hpre hg hW)
  unfold flushR
  rw [if_neg h0]
  by_cases hf : (D.wrs L.todo).2 = false
  · rw [if_pos hf]
    exact .inr ⟨rfl, rfl, fell (hm2 hf)⟩
  · rw [if_neg hf]
    by_cases hd : (D.wrs L.todo).1.down = true
    · rw [if_pos hd]
      exact .inr ⟨rfl, rfl, fell hd⟩
    · rw [if_neg hd]
      have ht : L.todo.take m = L.todo := hm1 (by simpa using hf)
      rw [ht] at wm hW
      generalize (D.wrs L.todo).1 = D1 at *
      obtain ⟨s1, s2, s3, s4⟩ := sync_same D1
      have hk : D1.sync.kept = keepAll D.kept L.todo := by rw [s3, wm.kept, wm.wait, h.wait, List.nil_append]
      have hn : D1.sync.now = D1.sync.kept := by rw [hk, s2, wm.now, h.same]
      have hd2 : Dur (keepAll D.kept L.todo) L.cnt (L.st.take L.len.toNat) := dur_mix hpre (mix_all _ _) hW
      have hhas : Has (keepAll D.kept L.todo) L.st := has_todo hpre.has h.len
      by_cases hd3 : D1.sync.down = true
      · -- the sync itself brings it down: the head's write is refused
        have e : sealR D1.sync L L.st.length = (24, D1.sync, L) := by unfold sealR; rw [if_pos hd3]
        rw [e]
        refine .inr ⟨rfl, rfl, hd3, ?_, fun g hg => ?_, s1.trans wm.size⟩
        · unfold Synced; rw [s4, hn]; rfl
        · rw [s4, hk] at hg
          have : g = keepAll D.kept L.todo := funext fun x => by
            rcases hg x with h1 | h1
            · exact h1
            · simp at h1
          rw [this, h.pre]
          exact .inl hd2
      · have hlive : Live D1.sync L P := ⟨by simpa using hd3, s4, hn, by rw [hk, h.pre]; exact hd2, h.pre, h.len, h.s1, h.cnt⟩
        have hst : L.st.take L.st.length = L.st := List.take_length
        have := seal_out hlive L.st.length (Nat.le_refl _) (by rw [hst, hk]; exact hhas)
        rw [hst] at this
        rcases this with ⟨e, d⟩ | ⟨e, e2, d⟩
        · exact .inl ⟨e, d.wait, d.same, d.dur, d.log, d.size.trans (s1.trans wm.size)⟩
        · exact .inr ⟨e, e2, d.down, d.sync, d.mix, d.size.trans (s1.trans wm.size)⟩
theorem seal_calm {D : Dsk} (h : D.calm) (L : Lg) (n : Nat) : (sealR D L n).1 = 0 ∧ (sealR D L n).2.1.calm := by
  have hw := calm_write h (up64 L.cnt % 2) (headSec (up64 L.cnt) n)
  unfold sealR
  rw [if_neg (by rw [h.2]; decide), if_neg (by rw [hw.2]; decide)]
  exact ⟨rfl, calm_sync hw⟩
theorem flush_calm {D : Dsk} (h : D.calm) (L : Lg) : (flushR D L).1 = 0 ∧ (flushR D L).2.1.calm := by
  unfold flushR
  by_cases h0 : L.wait = 0
  · rw [if_pos h0]; exact ⟨rfl, h⟩
  · obtain ⟨h1, h2⟩ := wrs_calm L.todo D h
    rw [if_neg h0, if_neg (by rw [h1]; decide), if_neg (by rw [h2.2]; decide)]
    exact seal_calm (calm_sync h2) _ _
theorem flush_dead {D : Dsk} (h : D.down = true) (L : Lg) (h0 : L.wait ≠ 0) : flushR D L = (24, D, L) := by
  unfold flushR
  rw [if_neg h0]
  cases ht : L.todo with
  | nil => rw [if_neg (by simp [Dsk.wrs]), if_pos (by simpa [Dsk.wrs] using h)]; rfl
  | cons x l => rw [if_pos (by unfold Dsk.wrs; rw [if_pos h])]; unfold Dsk.wrs; rw [if_pos h]

/-! a disk of bytes -/
structure Dsk.byt (D : Dsk) : Prop where
  now : ∀ k, Bytes (D.now k)
  kept : ∀ k, Bytes (D.kept k)
  wait : ∀ x ∈ D.wait, Bytes x.2
theorem byt_upd {f : Int → Sec} {n : Int} {s : Sec} (h : ∀ k, Bytes (f k)) (hs : Bytes s) (k : Int) : Bytes (upd f n s k) := by
  unfold upd; split
  · exact hs
  · exact h k
theorem byt_change {D : Dsk} (h : D.byt) : D.change.byt := by
  obtain ⟨_, h2, h3, h4⟩ := change_same D
  exact ⟨by rw [h2]; exact h.now, by rw [h3]; exact h.kept, by rw [h4]; exact h.wait⟩
theorem byt_write {D : Dsk} (h : D.byt) (n : Int) {s : Sec} (hs : Bytes s) : (D.write n s).byt := by
  obtain ⟨_, h2, h3, h4⟩ := write_same D n s
  refine ⟨by rw [h2]; exact byt_upd h.now hs, by rw [h3]; exact h.kept, ?_⟩
  rw [h4]
  intro x hx
  rcases List.mem_append.1 hx with hx | hx
  · exact h.wait x hx
  · obtain rfl := List.mem_singleton.1 hx; exact hs
theorem byt_keepAll : ∀ (l : List (Int × Sec)) (f : Int → Sec), (∀ k, Bytes (f k)) → (∀ x ∈ l, Bytes x.2) → ∀ k, Bytes (keepAll f l k)
  | [], f, h, _ => h
  | x :: l, f, h, hl => byt_keepAll l (upd f x.1 x.2) (byt_upd h (hl x (by simp))) (fun y hy => hl y (by simp [hy]))
theorem byt_sync {D : Dsk} (h : D.byt) : D.sync.byt := by
  obtain ⟨_, h2, h3, h4⟩ := sync_same D
  exact ⟨by rw [h2]; exact h.now, by rw [h3]; exact byt_keepAll _ _ h.kept h.wait, by rw [h4]; intro x hx; cases hx⟩
theorem byt_mix {f g : Int → Sec} {W : List (Int × Sec)} (h : Mix f W g) (hf : ∀ k, Bytes (f k)) (hw : ∀ x ∈ W, Bytes x.2) (k : Int) : Bytes (g k) := by
  rcases h k with h1 | h1
  · rw [h1]; exact hf k
  · exact hw _ h1
theorem byt_restart {D : Dsk} (h : D.byt) (hs : Synced D) (ks : List Bool) : (D.restart ks).byt := by
  obtain ⟨h1, h2, h3, _⟩ := restart_mix hs ks
  exact ⟨byt_mix h1 h.kept h.wait, by rw [h2]; exact byt_mix h1 h.kept h.wait, by rw [h3]; intro x hx; cases hx⟩
theorem byt_arm {D : Dsk} (h : D.byt) (n : Int) : (D.arm n).byt := by
  unfold Dsk.arm
  split
  · exact h
  · exact ⟨h.now, h.kept, h.wait⟩
theorem byt_new (n : Int) : (Dsk.new n).byt := by
  have : Bytes sec0 := fun b hb => by simp [sec0] at hb; omega
  exact ⟨fun _ => this, fun _ => this, fun x hx => by cases hx⟩
theorem bytes_pad {c : List Int} (h : Bytes c) : Bytes (padTo c) := fun b hb => by
  rcases List.mem_append.1 hb with hb | hb
  · exact h b hb
  · have := List.eq_of_mem_replicate hb; omega
theorem bytes_secAt {bs : List Int} (h : Bytes bs) (i : Nat) : Bytes (secAt bs i) := bytes_pad fun b hb => h b (List.mem_of_mem_drop (List.mem_of_mem_take hb))
theorem bytes_head (c n : Int) : Bytes (headSec c n) := bytes_pad fun b hb => by
  rcases List.mem_append.1 hb with hb | hb
  · exact leN_bytes _ _ b hb
  · exact leN_bytes _ _ b hb
theorem byt_wrs : ∀ (l : List (Int × Sec)) (D : Dsk), D.byt → (∀ x ∈ l, Bytes x.2) → (D.wrs l).1.byt
  | [], D, h, _ => h
  | x :: l, D, h, hl => by
    unfold Dsk.wrs
    split
    · exact h
    · exact byt_wrs l _ (byt_write h _ (hl x (by simp))) (fun y hy => hl y (by simp [hy]))
theorem byt_seal {D : Dsk} (h : D.byt) (L : Lg) (n : Nat) : (sealR D L n).2.1.byt := by
  unfold sealR
  split
  · exact h
  · split
    · exact byt_write h _ (bytes_head _ _)
    · exact byt_sync (byt_write h _ (bytes_head _ _))
theorem byt_flush {D : Dsk} (h : D.byt) {L : Lg} (hl : Bytes L.st) : (flushR D L).2.1.byt := by
  have h1 : (D.wrs L.todo).1.byt := byt_wrs _ _ h fun x hx => by
    obtain ⟨i, rfl⟩ := todo_is L x hx
    exact bytes_secAt hl i
  unfold flushR
  split
  · exact h
  · split
    · exact h1
    · split
      · exact h1
      · exact byt_seal (byt_sync h1) _ _
end Go.Proofs.Ytihpobpkhhkejaa
