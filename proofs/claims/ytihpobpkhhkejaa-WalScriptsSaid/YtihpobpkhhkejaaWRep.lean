/-
  WalReplay, told plainly: a log that is appended to and flushed on a disk that may go down, and what is found behind a restart. No condition beyond each lemma's own.
-/
import Derived.Test.YtihpobpkhhkejaaWUpB
set_option autoImplicit false
namespace Go.Proofs.Ytihpobpkhhkejaa
open Go Go.RowKit

theorem wrs_wait : ∀ (l : List (Int × Sec)) (D : Dsk), (D.wrs l).1.wait.length ≤ D.wait.length + l.length
  | [], D => by simp [Dsk.wrs]
  | x :: l, D => by
    unfold Dsk.wrs
    split
    · simp
    · have h1 := wrs_wait l (D.write x.1 x.2)
      have h2 := (write_same D x.1 x.2).2.2.2
      rw [h2] at h1
      simp only [List.length_append, List.length_cons, List.length_nil] at h1 ⊢
      omega
theorem secsOf_len : ∀ (k a : Nat) (bs : List Int), (secsOf bs a k).length = k
  | 0, _, _ => rfl
  | k + 1, a, bs => by rw [secsOf, List.length_cons, secsOf_len k]
theorem todo_len (L : Lg) : L.todo.length ≤ L.st.length / 64 + 1 := by
  unfold Lg.todo
  rw [secsOf_len]
  unfold upTo
  omega
theorem seal_wait (D : Dsk) (L : Lg) (n : Nat) : (sealR D L n).2.1.wait.length ≤ D.wait.length + 1 := by
  have h := (write_same D (up64 L.cnt % 2) (headSec (up64 L.cnt) n)).2.2.2
  unfold sealR
  split
  · show D.wait.length ≤ _; omega
  · split
    · show ((D.write _ _).wait.length) ≤ _; rw [h]; simp
    · show ((D.write _ _).sync.wait.length) ≤ _; rw [(sync_same _).2.2.2]; simp
theorem flush_wait (D : Dsk) (L : Lg) : (flushR D L).2.1.wait.length ≤ D.wait.length + L.st.length / 64 + 2 := by
  have h1 := wrs_wait L.todo D
  have h2 := todo_len L
  unfold flushR
  split
  · show D.wait.length ≤ _; omega
  · split
    · show ((D.wrs L.todo).1.wait.length) ≤ _; omega
    · split
      · show ((D.wrs L.todo).1.wait.length) ≤ _; omega
      · have h3 := seal_wait (D.wrs L.todo).1.sync L L.st.length
        rw [(sync_same _).2.2.2] at h3
        simp only [List.length_nil] at h3
        omega
structure RepI (D : Dsk) (L : Lg) (had : List (List Int)) (f n : Nat) : Prop where
  size : D.size = 200
  byt : D.byt
  wl : D.wait.length ≤ 300
  sync : Synced D
  st : L.st = flatF had
  ok : RecsOk had
  room : (L.st.length : Int) ≤ 12672
  fle : f ≤ had.length
  n1 : n < 100000000000000000
  core : LogUp D L had f n ∨ (D.down = true ∧ ∀ g, Mix D.kept D.wait g → ∃ (c : Int) (m : Nat), 0 ≤ c ∧ c ≤ n ∧ f ≤ m ∧ m ≤ had.length ∧ Dur g c (flatF (had.take m)))
section
variable {D : Dsk} {L : Lg} {had : List (List Int)} {f n : Nat}
theorem RepI.count (h : RepI D L had f n) : had.length ≤ 3168 := by
  have := flatF_count had
  have h2 := h.room
  rw [h.st] at h2
  omega
theorem RepI.append (h : RepI D L had f n) {r : List Int} (hfit : (L.st.length : Int) + 4 + r.length ≤ 12672) (hb : Bytes r) :
    ∃ L', appR D L r = (0, L') ∧ RepI D L' (had ++ [r]) f n ∧ L'.wait = L.wait + 1 := by
  have hz := h.size
  have e : appR D L r = (0, { L with st := L.st ++ leN r.length 4 ++ r, wait := L.wait + 1 }) := by unfold appR; rw [if_neg (by rw [hz]; omega)]
  have hst : L.st ++ leN r.length 4 ++ r = flatF (had ++ [r]) := by rw [flatF_snoc, h.st]
  have hl : (L.st ++ leN r.length 4 ++ r).length = L.st.length + 4 + r.length := by simp only [List.length_append, leN_len]
  refine ⟨_, e, ⟨hz, h.byt, h.wl, h.sync, hst, h.ok.snoc (by omega) hb, by show ((L.st ++ leN r.length 4 ++ r).length : Int) ≤ _; omega, by have := h.fle; rw [List.length_append]; omega, h.n1, ?_⟩, rfl⟩
  rcases h.core with hu | ⟨hd, hm⟩
  · obtain ⟨L', ha, hu', _, _⟩ := hu.append (r := r) (by rw [hz]; omega) hb
    rw [e] at ha
    simp only [Prod.mk.injEq, true_and] at ha
    rw [ha]
    exact .inl hu'
  · refine .inr ⟨hd, fun g hg => ?_⟩
    obtain ⟨c, m, h0, h1, h2, h3, h4⟩ := hm g hg
    exact ⟨c, m, h0, h1, h2, by rw [List.length_append]; omega, by rw [List.take_append_of_le_length h3]; exact h4⟩
theorem RepI.full (h : RepI D L had f n) {r : List Int} (hfit : ¬ (L.st.length : Int) + 4 + r.length ≤ 12672) : appR D L r = (21, L) := appR_full D L (by rw [h.size]; omega)
theorem RepI.flush (h : RepI D L had f n) (h0 : L.wait ≠ 0) (hn : n + 1 < 100000000000000000) :
    ((flushR D L).1 = 0 ∧ RepI (flushR D L).2.1 (flushR D L).2.2 had had.length (n + 1)) ∨ ((flushR D L).1 = 24 ∧ (flushR D L).2.1.down = true ∧ RepI (flushR D L).2.1 (flushR D L).2.2 had f (n + 1)) := by
  have hby := byt_flush h.byt (L := L) (by rw [h.st]; exact flatF_bytes h.ok)
  have hwl := flush_wait D L
  have hroom := h.room
  rcases h.core with hu | ⟨hd, hm⟩
  · have hw : D.wait.length = 0 := by rw [hu.live.wait]; rfl
    rcases hu.flush2 h0 (by omega) with ⟨e, eL, ⟨_, hu'⟩ | hdn⟩ | ⟨e, eL, hdn⟩
    · refine .inl ⟨e, ?_⟩
      have hz : (flushR D L).2.1.size = D.size := by
        rcases flush_out hu.live h0 with ⟨_, hx⟩ | ⟨e3, _⟩
        · exact hx.size
        · rw [e] at e3; cases e3
      exact ⟨hz.trans h.size, hby, by omega, hu'.synced, hu'.st, h.ok, by rw [hu'.st, ← h.st]; exact hroom, Nat.le_refl _, hn, .inl hu'⟩
    · refine .inl ⟨e, ⟨hdn.size.trans h.size, hby, by omega, hdn.sync, by rw [eL], h.ok, by rw [eL]; show ((flatF had).length : Int) ≤ _; rw [← h.st]; exact hroom, Nat.le_refl _, hn, .inr ⟨hdn.down, fun g hg => ?_⟩⟩⟩
      obtain ⟨c, qs, c0, c1, hq, hd⟩ := hdn.mix g hg
      subst hq
      exact ⟨c, qs.length, c0, c1, Nat.le_refl _, Nat.le_refl _, by rw [List.take_length]; exact hd⟩
    · refine .inr ⟨e, hdn.down, ⟨hdn.size.trans h.size, hby, by omega, hdn.sync, by rw [eL]; exact h.st, h.ok, by rw [eL]; exact hroom, h.fle, hn, .inr ⟨hdn.down, fun g hg => ?_⟩⟩⟩
      obtain ⟨c, qs, c0, c1, hq, hd⟩ := hdn.mix g hg
      rcases hq with hq | hq
      · exact ⟨c, f, c0, c1, Nat.le_refl _, h.fle, by rw [← hq]; exact hd⟩
      · exact ⟨c, had.length, c0, c1, h.fle, Nat.le_refl _, by rw [List.take_length, ← hq]; exact hd⟩
  · have e := flush_dead hd L h0
    rw [e]
    refine .inr ⟨rfl, hd, ⟨h.size, h.byt, h.wl, h.sync, h.st, h.ok, h.room, h.fle, hn, .inr ⟨hd, fun g hg => ?_⟩⟩⟩
    obtain ⟨c, m, h0, h1, h2, h3, h4⟩ := hm g hg
    exact ⟨c, m, h0, by omega, h2, h3, h4⟩
theorem flatF_take_le (rs : List (List Int)) (m : Nat) : (flatF (rs.take m)).length ≤ (flatF rs).length := by
  have : flatF rs = flatF (rs.take m) ++ flatF (rs.drop m) := by
    unfold flatF
    rw [← List.flatMap_append, List.take_append_drop]
  rw [this, List.length_append]; omega
theorem RepI.back (h : RepI D L had f n) (ks : List Bool) (h64 : ∀ k, ((D.restart ks).now k).length = 64) :
    ∃ m L', f ≤ m ∧ m ≤ had.length ∧ openR (D.restart ks) = (0, some (L', had.take m)) ∧ LogUp (D.restart ks) L' (had.take m) m n := by
  have hz := h.size
  have hn := h.n1
  rcases h.core with hu | ⟨hd, hm⟩
  · obtain ⟨L', h1, h2⟩ := hu.back ks h64
    exact ⟨f, L', Nat.le_refl _, h.fle, h1, h2⟩
  · obtain ⟨h1, h2, h3, h4⟩ := restart_mix h.sync ks
    obtain ⟨c, m, c0, c1, hf, hl, hdur⟩ := hm _ h1
    have hlen : (had.take m).length = m := by rw [List.length_take]; omega
    have hfit := flatF_take_le had m
    have hr := h.room
    rw [h.st] at hr
    obtain ⟨L', ho, hu⟩ := dur_up (D := D.restart ks) rfl h3 h2.symm (by rw [h4, hz]; decide) h64 c1 (by omega) hdur (by rw [h4, hz]; omega) (h.ok.take m)
    rw [hlen] at hu
    exact ⟨m, L', hf, hl, ho, hu⟩
end
theorem RepI.more {D : Dsk} {L : Lg} {had : List (List Int)} {f n : Nat} (h : RepI D L had f n) (hn : n + 1 < 100000000000000000 := by omega) : RepI D L had f (n + 1) := by
  refine ⟨h.size, h.byt, h.wl, h.sync, h.st, h.ok, h.room, h.fle, hn, ?_⟩
  rcases h.core with hu | ⟨hd, hm⟩
  · exact .inl (hu.more (by omega) (by omega))
  · refine .inr ⟨hd, fun g hg => ?_⟩
    obtain ⟨c, m, h0, h1, h2, h3, h4⟩ := hm g hg
    exact ⟨c, m, h0, by omega, h2, h3, h4⟩
theorem RepI.start {D : Dsk} {L : Lg} (h : LogUp D L [] 0 0) (hs : D.size = 200) (hb : D.byt) : RepI D L [] 0 0 :=
  ⟨hs, hb, by rw [h.live.wait]; decide, h.synced, h.st, h.ok, by rw [h.st]; decide, Nat.le_refl _, by decide, .inl h⟩
end Go.Proofs.Ytihpobpkhhkejaa
