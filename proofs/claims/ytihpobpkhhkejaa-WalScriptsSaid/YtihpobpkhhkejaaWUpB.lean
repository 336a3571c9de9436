/-
  A log that is flushed or reset on a disk that may go down: what is found behind a restart. No condition beyond each lemma's own.
-/
import Derived.Test.YtihpobpkhhkejaaWRead
set_option autoImplicit false
namespace Go.Proofs.Ytihpobpkhhkejaa
open Go Go.RowKit

section
variable {D : Dsk} {L : Lg} {rs : List (List Int)} {fl n : Nat}
theorem LogUp.flush2 (h : LogUp D L rs fl n) (h0 : L.wait ≠ 0) (hn : n + 1 < 1000000000000000000) :
    ((flushR D L).1 = 0 ∧ (flushR D L).2.2 = { cnt := L.cnt + 1, len := (flatF rs).length, st := flatF rs, wait := 0 } ∧ (((flushR D L).2.1.down = false ∧ LogUp (flushR D L).2.1 (flushR D L).2.2 rs rs.length (n + 1)) ∨ Down D (flushR D L).2.1 (n + 1) (fun qs => qs = rs))) ∨
    ((flushR D L).1 = 24 ∧ (flushR D L).2.2 = L ∧ Down D (flushR D L).2.1 (n + 1) (fun qs => qs = rs.take fl ∨ qs = rs)) := by
  have hc := h.cnt
  have c0 := h.live.dur.c0
  have hr := h.room
  rw [h.st] at hr
  have hfo := flush_out h.live h0
  rw [h.st] at hfo
  rcases hfo with ⟨e, hd⟩ | ⟨e, e2, hd⟩
  · refine .inl ⟨e, hd.log, ?_⟩
    cases hdn : (flushR D L).2.1.down with
    | false => exact .inl ⟨rfl, h.after hd hdn h.ok hr hn⟩
    | true => exact .inr (done_down h hd hdn _ rfl)
  · refine .inr ⟨e, e2, hd.down, hd.sync, fun g hg => ?_, hd.size⟩
    rcases hd.mix g hg with h1 | h1
    · exact ⟨L.cnt, rs.take fl, c0, by omega, .inl rfl, h1⟩
    · exact ⟨L.cnt + 1, rs, by omega, by omega, .inr rfl, h1⟩
theorem LogUp.reset2 (h : LogUp D L rs fl n) (hn : n + 1 < 1000000000000000000) :
    ((sealR D L 0).1 = 0 ∧ (sealR D L 0).2.2 = { cnt := L.cnt + 1, len := 0, st := [], wait := 0 } ∧ (((sealR D L 0).2.1.down = false ∧ LogUp (sealR D L 0).2.1 (sealR D L 0).2.2 [] 0 (n + 1)) ∨ Down D (sealR D L 0).2.1 (n + 1) (fun qs => qs = []))) ∨
    ((sealR D L 0).1 = 24 ∧ (sealR D L 0).2.2 = L ∧ Down D (sealR D L 0).2.1 (n + 1) (fun qs => qs = rs.take fl ∨ qs = [])) := by
  have hc := h.cnt
  have c0 := h.live.dur.c0
  have hs := h.size
  have e0 : L.st.take 0 = flatF [] := by simp [flatF]
  have := seal_out h.live 0 (Nat.zero_le _) (by rw [e0]; exact Has.nil _)
  rw [e0] at this
  rcases this with ⟨e, hd⟩ | ⟨e, e2, hd⟩
  · refine .inl ⟨e, hd.log, ?_⟩
    cases hdn : (sealR D L 0).2.1.down with
    | false => exact .inl ⟨rfl, h.after hd hdn RecsOk.nil (by show (0 : Int) ≤ _; omega) hn⟩
    | true => exact .inr (done_down h hd hdn _ rfl)
  · refine .inr ⟨e, e2, hd.down, hd.sync, fun g hg => ?_, hd.size⟩
    rcases hd.mix g hg with h1 | h1
    · exact ⟨L.cnt, rs.take fl, c0, by omega, .inl rfl, h1⟩
    · exact ⟨L.cnt + 1, [], by omega, by omega, .inr rfl, h1⟩
theorem LogUp.synced (h : LogUp D L rs fl n) : Synced D := by unfold Synced; rw [h.live.wait, h.live.same]; rfl
/-- arming a disk that is up -/
theorem LogUp.armed (h : LogUp D L rs fl n) (k : Int) (hk : 1 ≤ k) : LogUp (D.arm k) L rs fl n ∧ (D.arm k).left = k := by
  have e : D.arm k = { D with left := k, down := false } := by
    unfold Dsk.arm
    rw [if_neg (by rw [h.live.down]; decide)]
    have h1 : (k == 0) = false := by simp; omega
    rw [h1]
    congr 1
    simp; omega
  rw [e]
  exact ⟨⟨⟨rfl, h.live.wait, h.live.same, h.live.dur, h.live.pre, h.live.len, h.live.s1, h.live.cnt⟩, h.st, h.len, h.ok, h.fle, h.wait, h.cnt, h.n1, h.room, h.size⟩, rfl⟩
theorem restart_arm (D : Dsk) (k : Int) (ks : List Bool) : (D.arm k).restart ks = D.restart ks := by
  unfold Dsk.arm
  split
  · rfl
  · rfl
end
theorem flatF_fit {D : Dsk} {L : Lg} {rs : List (List Int)} {fl n : Nat} (h : LogUp D L rs fl n) : ((flatF rs).length : Int) ≤ (D.size - 2) * 64 ∧ ((flatF (rs.take fl)).length : Int) ≤ (D.size - 2) * 64 := by
  have h1 := h.room
  have h2 := h.live.pre
  refine ⟨by rw [← h.st]; exact h1, ?_⟩
  rw [h2, List.length_take]; omega
/-- WalResets, told plainly -/
theorem resets_plain {D : Dsk} {L : Lg} {rs : List (List Int)} {n : Nat} (h : LogUp D L rs rs.length n) (hb : D.byt) (k : Int) (h0 : 0 ≤ k) (hk : k < 4) (hn : n + 1 < 1000000000000000000) :
    (sealR (D.arm k) L 0).1 = (if 2 ≤ k then 0 else 24) ∧ (sealR (D.arm k) L 0).2.1.down = decide (k < 3) ∧ Synced (sealR (D.arm k) L 0).2.1 ∧ (sealR (D.arm k) L 0).2.1.byt ∧ (sealR (D.arm k) L 0).2.1.wait.length ≤ 1 ∧
    ∀ ks, (∀ x, (((sealR (D.arm k) L 0).2.1.restart ks).now x).length = 64) → ∃ L' qs, openR ((sealR (D.arm k) L 0).2.1.restart ks) = (0, some (L', qs)) ∧ LogUp ((sealR (D.arm k) L 0).2.1.restart ks) L' qs qs.length (n + 1) ∧ (qs = rs ∨ qs = []) ∧ (2 ≤ k → qs = []) := by
  have hby : (sealR (D.arm k) L 0).2.1.byt := byt_seal (byt_arm hb k) L 0
  by_cases hk0 : k = 0
  · subst hk0
    have hd : (D.arm 0).down = true := by unfold Dsk.arm; rw [if_neg (by rw [h.live.down]; decide)]; rfl
    have e : sealR (D.arm 0) L 0 = (24, D.arm 0, L) := by unfold sealR; rw [if_pos hd]
    rw [e] at hby ⊢
    have hsy : Synced (D.arm 0) := by
      have := h.synced
      unfold Dsk.arm
      rw [if_neg (by rw [h.live.down]; decide)]
      exact this
    refine ⟨rfl, hd, hsy, hby, ?_, fun ks h64 => ?_⟩
    · have : (D.arm 0).wait = D.wait := by unfold Dsk.arm; rw [if_neg (by rw [h.live.down]; decide)]
      rw [this, h.live.wait]; decide
    · rw [restart_arm] at h64 ⊢
      obtain ⟨L', h1, h2⟩ := h.back ks h64
      rw [List.take_length] at h1 h2
      exact ⟨L', rs, h1, h2.more (by omega) hn, .inl rfl, fun h => by omega⟩
  · obtain ⟨ha, hl⟩ := h.armed k (by omega)
    have hz : (D.arm k).size = D.size := by unfold Dsk.arm; split <;> rfl
    have hfit := flatF_fit ha
    rw [List.take_length] at hfit
    -- the disk, counted
    have hw1 : ∀ x s, ((D.arm k).write x s).left = k - 1 ∧ ((D.arm k).write x s).down = (k - 1 == 0) := fun x s => by
      unfold Dsk.write Dsk.change
      rw [if_pos (by show 0 < (D.arm k).left; omega)]
      exact ⟨by show (D.arm k).left - 1 = _; rw [hl], by show ((D.arm k).left - 1 == 0) = _; rw [hl]⟩
    have hval : (sealR (D.arm k) L 0).1 = (if 2 ≤ k then 0 else 24) ∧ (sealR (D.arm k) L 0).2.1.down = decide (k < 3) ∧ (sealR (D.arm k) L 0).2.1.wait.length ≤ 1 := by
      obtain ⟨l1, d1⟩ := hw1 (up64 L.cnt % 2) (headSec (up64 L.cnt) (0 : Nat))
      have w1 := (write_same (D.arm k) (up64 L.cnt % 2) (headSec (up64 L.cnt) (0 : Nat))).2.2.2
      unfold sealR
      rw [if_neg (by rw [ha.live.down]; decide)]
      generalize (D.arm k).write (up64 L.cnt % 2) (headSec (up64 L.cnt) (0 : Nat)) = D1 at *
      by_cases hk1 : k = 1
      · subst hk1
        rw [if_pos (by rw [d1]; rfl)]
        exact ⟨rfl, by rw [d1]; rfl, by rw [w1, ha.live.wait]; simp⟩
      · have hk1' : (k - 1 == 0) = false := by simp; omega
        rw [if_neg (by rw [d1, hk1']; decide), if_pos (by omega)]
        have hs : D1.sync.down = (k - 1 - 1 == 0) := by
          unfold Dsk.sync Dsk.change
          rw [if_pos (by show 0 < D1.left; omega)]
          show (D1.left - 1 == 0) = _
          rw [l1]
        refine ⟨rfl, ?_, by rw [(sync_same D1).2.2.2]; simp⟩
        rw [hs, Bool.eq_iff_iff]
        simp; omega
    obtain ⟨v1, v2, v3⟩ := hval
    have fin : ∀ Φ : List (List Int) → Prop, (∀ qs, Φ qs → qs = rs ∨ qs = []) → Down (D.arm k) (sealR (D.arm k) L 0).2.1 (n + 1) Φ → ∀ ks, (∀ x, (((sealR (D.arm k) L 0).2.1.restart ks).now x).length = 64) →
        ∃ L' qs, Φ qs ∧ openR ((sealR (D.arm k) L 0).2.1.restart ks) = (0, some (L', qs)) ∧ LogUp ((sealR (D.arm k) L 0).2.1.restart ks) L' qs qs.length (n + 1) := fun Φ hΦ hd ks h64 => by
      refine hd.back ks ha.size h64 hn (fun qs hq => ?_)
      rcases hΦ qs hq with rfl | rfl
      · exact ⟨hfit.1, h.ok⟩
      · exact ⟨by have := ha.size; show (0 : Int) ≤ _; omega, RecsOk.nil⟩
    rcases ha.reset2 hn with ⟨e, _, ⟨_, hu⟩ | hd⟩ | ⟨e, _, hd⟩
    · refine ⟨v1, v2, hu.synced, hby, v3, fun ks h64 => ?_⟩
      obtain ⟨L', h1, h2⟩ := hu.back ks h64
      exact ⟨L', [], h1, h2, .inr rfl, fun _ => rfl⟩
    · refine ⟨v1, v2, hd.sync, hby, v3, fun ks h64 => ?_⟩
      obtain ⟨L', qs, hq, h1, h2⟩ := fin _ (fun qs hq => .inr hq) hd ks h64
      exact ⟨L', qs, h1, h2, .inr hq, fun _ => hq⟩
    · refine ⟨v1, v2, hd.sync, hby, v3, fun ks h64 => ?_⟩
      obtain ⟨L', qs, hq, h1, h2⟩ := fin _ (fun qs hq => by rw [List.take_length] at hq; exact hq) hd ks h64
      refine ⟨L', qs, h1, h2, by rw [List.take_length] at hq; exact hq, fun h => ?_⟩
      rw [e] at v1
      rw [if_pos h] at v1
      cases v1
end Go.Proofs.Ytihpobpkhhkejaa
