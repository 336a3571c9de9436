/-
  A log that holds records: Append, Flush, Reset and Open, told of the records. No condition beyond each lemma's own.
-/
import Derived.Test.YtihpobpkhhkejaaWLawB
set_option autoImplicit false
namespace Go.Proofs.Ytihpobpkhhkejaa
open Go Go.RowKit

/-- the log L over the disk D holds the records rs, fl of them flushed; at most n heads were written -/
structure LogUp (D : Dsk) (L : Lg) (rs : List (List Int)) (fl n : Nat) : Prop where
  live : Live D L (flatF (rs.take fl))
  st : L.st = flatF rs
  len : L.len = (flatF (rs.take fl)).length
  ok : RecsOk rs
  fle : fl ≤ rs.length
  wait : L.wait = ((rs.length - fl : Nat) : Int)
  cnt : L.cnt ≤ n
  n1 : n < 1000000000000000000
  room : (L.st.length : Int) ≤ (D.size - 2) * 64
  size : 3 ≤ D.size ∧ D.size ≤ 65536
theorem flatF_bytes {rs : List (List Int)} (h : RecsOk rs) : Bytes (flatF rs) := fun b hb => by
  obtain ⟨r, hr, hb⟩ := List.mem_flatMap.1 hb
  rcases List.mem_append.1 hb with hb | hb
  · exact leN_bytes _ _ b hb
  · exact (h r hr).2 b hb
theorem RecsOk.take {rs : List (List Int)} (h : RecsOk rs) (n : Nat) : RecsOk (rs.take n) := fun r hr => h r (List.mem_of_mem_take hr)
theorem RecsOk.nil : RecsOk [] := fun r hr => by cases hr
theorem RecsOk.snoc {rs : List (List Int)} (h : RecsOk rs) {r : List Int} (h1 : (r.length : Int) < 4294967296) (h2 : Bytes r) : RecsOk (rs ++ [r]) := fun x hx => by
  rcases List.mem_append.1 hx with hx | hx
  · exact h x hx
  · obtain rfl := List.mem_singleton.1 hx; exact ⟨h1, h2⟩
theorem flatF_count : ∀ (rs : List (List Int)), 4 * rs.length ≤ (flatF rs).length
  | [] => by simp
  | r :: rs => by
    have e : flatF (r :: rs) = frame r ++ flatF rs := by simp [flatF]
    have := flatF_count rs
    rw [e, List.length_append, frame_len, List.length_cons]; omega
theorem dur_up {D : Dsk} (hd : D.down = false) (hw : D.wait = []) (hk : D.now = D.kept) (hs : 3 ≤ D.size ∧ D.size ≤ 65536) (h64 : ∀ k, (D.now k).length = 64) {c : Int} {n : Nat} (hc : c ≤ n) (hn : n < 1000000000000000000) {rs : List (List Int)} (h : Dur D.now c (flatF rs)) (hf : ((flatF rs).length : Int) ≤ (D.size - 2) * 64) (hr : RecsOk rs) :
    ∃ L, openR D = (0, some (L, rs)) ∧ LogUp D L rs rs.length n := by
  refine ⟨_, open_dur hs.1 hd h64 h hf hr, ⟨hd, hw, hk, by rw [List.take_length, ← hk]; exact h, ?_, ?_, ?_, ?_⟩, rfl, by rw [List.take_length], hr, Nat.le_refl _, by simp, hc, hn, hf, hs⟩
  · show flatF (rs.take rs.length) = (flatF rs).take ((flatF rs).length : Int).toNat
    rw [List.take_length, Int.toNat_natCast, List.take_length]
  · show ((flatF rs).length : Int).toNat ≤ (flatF rs).length; omega
  · show (flatF rs).length ≤ _; omega
  · show c + 1 < _; omega
theorem up_new (k : Int) (h3 : 3 ≤ k) (h4 : k ≤ 65536) : ∃ L, openR (Dsk.new k) = (0, some (L, [])) ∧ LogUp (Dsk.new k) L [] 0 0 := by
  have hsz : (Dsk.new k).size = k := by show szOf k = k; unfold szOf; rw [if_neg (by omega), if_neg (by omega)]
  exact dur_up (D := Dsk.new k) (rs := []) (n := 0) rfl rfl rfl (by rw [hsz]; omega) (fun _ => sec0_len) (Int.le_refl _) (by decide) (dur_new k) (by rw [hsz]; show (0 : Int) ≤ _; omega) RecsOk.nil
section
variable {D : Dsk} {L : Lg} {rs : List (List Int)} {fl n : Nat}
theorem LogUp.opens (h : LogUp D L rs fl n) (h64 : ∀ k, (D.now k).length = 64) : ∃ L', openR D = (0, some (L', rs.take fl)) ∧ LogUp D L' (rs.take fl) fl n := by
  have hl : (rs.take fl).length = fl := by rw [List.length_take]; have := h.fle; omega
  have hfit : ((flatF (rs.take fl)).length : Int) ≤ (D.size - 2) * 64 := by
    have := h.live.pre
    have h2 := h.room
    rw [this, List.length_take]; omega
  have := dur_up h.live.down h.live.wait h.live.same h.size h64 h.cnt h.n1 (by rw [h.live.same]; exact h.live.dur) hfit (h.ok.take fl)
  rw [hl] at this
  exact this
theorem LogUp.append (h : LogUp D L rs fl n) {r : List Int} (hfit : (L.st.length : Int) + 4 + r.length ≤ (D.size - 2) * 64) (hb : Bytes r) :
    ∃ L', appR D L r = (0, L') ∧ LogUp D L' (rs ++ [r]) fl n ∧ (L'.st.length : Int) = L.st.length + 4 + r.length ∧ L'.wait = L.wait + 1 := by
  have hs := h.size
  have e : (rs ++ [r]).take fl = rs.take fl := List.take_append_of_le_length h.fle
  refine ⟨{ L with st := L.st ++ leN r.length 4 ++ r, wait := L.wait + 1 }, by unfold appR; rw [if_neg (by omega)], ⟨⟨h.live.down, h.live.wait, h.live.same, by rw [e]; exact h.live.dur, ?_, ?_, ?_, h.live.cnt⟩, ?_, by rw [e]; exact h.len, h.ok.snoc (by omega) hb, ?_, ?_, h.cnt, h.n1, ?_, h.size⟩, ?_, rfl⟩
  · have hl := h.live.len
    show flatF ((rs ++ [r]).take fl) = (L.st ++ leN r.length 4 ++ r).take L.len.toNat
    rw [e, List.append_assoc, List.take_append_of_le_length hl]
    exact h.live.pre
  · have hl := h.live.len
    show L.len.toNat ≤ (L.st ++ leN r.length 4 ++ r).length
    simp only [List.length_append]; omega
  · show (L.st ++ leN r.length 4 ++ r).length ≤ _
    simp only [List.length_append, leN_len]; omega
  · show L.st ++ leN r.length 4 ++ r = _
    rw [h.st, flatF_snoc]
  · have := h.fle; rw [List.length_append]; omega
  · show L.wait + 1 = _
    have := h.fle
    rw [h.wait, List.length_append, List.length_singleton]; omega
  · show ((L.st ++ leN r.length 4 ++ r).length : Int) ≤ _
    simp only [List.length_append, leN_len]; omega
  · simp only [List.length_append, leN_len]; omega
theorem appR_full (D : Dsk) (L : Lg) {r : List Int} (hfit : (L.st.length : Int) + 4 + r.length > (D.size - 2) * 64) : appR D L r = (21, L) := by
  unfold appR; rw [if_pos (by omega)]
theorem LogUp.after (h : LogUp D L rs fl n) {D' : Dsk} {L' : Lg} {qs : List (List Int)} (hd : Done D D' L L' (flatF qs)) (hu : D'.down = false) (hq : RecsOk qs) (hf : ((flatF qs).length : Int) ≤ (D.size - 2) * 64) (hn : n + 1 < 1000000000000000000) : LogUp D' L' qs qs.length (n + 1) := by
  have hc := h.cnt
  have hs := h.size
  have hz := hd.size
  rw [hd.log]
  refine ⟨⟨hu, hd.wait, hd.same, by rw [List.take_length]; exact hd.dur, ?_, ?_, ?_, ?_⟩, rfl, by rw [List.take_length], hq, Nat.le_refl _, by simp, ?_, hn, ?_, by rw [hz]; exact hs⟩
  · show flatF (qs.take qs.length) = (flatF qs).take ((flatF qs).length : Int).toNat
    rw [List.take_length, Int.toNat_natCast, List.take_length]
  · show ((flatF qs).length : Int).toNat ≤ (flatF qs).length; omega
  · show (flatF qs).length ≤ _; omega
  · show L.cnt + 1 + 1 < _; omega
  · show L.cnt + 1 ≤ _; omega
  · show ((flatF qs).length : Int) ≤ _; rw [hz]; exact hf
/-- what is left where a disk is down: the first m records, or those of qs -/
structure Down (D D' : Dsk) (n : Nat) (Φ : List (List Int) → Prop) : Prop where
  down : D'.down = true
  sync : Synced D'
  mix : ∀ g, Mix D'.kept D'.wait g → ∃ (c : Int) (qs : List (List Int)), 0 ≤ c ∧ c ≤ n ∧ Φ qs ∧ Dur g c (flatF qs)
  size : D'.size = D.size
/-- what is left where the disk is down though the last call is done -/
theorem done_down {D' : Dsk} {L' : Lg} {qs : List (List Int)} (h : LogUp D L rs fl n) (hd : Done D D' L L' (flatF qs)) (hu : D'.down = true) (Φ : List (List Int) → Prop) (hq : Φ qs) : Down D D' (n + 1) Φ := by
  have hc := h.cnt
  have h0 := h.live.dur.c0
  refine ⟨hu, by unfold Synced; rw [hd.wait, hd.same]; rfl, fun g hg => ⟨L.cnt + 1, qs, by omega, by omega, hq, ?_⟩, hd.size⟩
  rw [hd.wait] at hg
  have : g = D'.kept := funext fun x => by
    rcases hg x with h1 | h1
    · exact h1
    · simp at h1
  rw [this]
  exact hd.dur
theorem LogUp.flush (h : LogUp D L rs fl n) (h0 : L.wait ≠ 0) (Φ : List (List Int) → Prop) (hp : Φ (rs.take fl)) (hq : Φ rs) (hn : n + 1 < 1000000000000000000) :
    ((flushR D L).1 = 0 ∧ (flushR D L).2.2 = { cnt := L.cnt + 1, len := (flatF rs).length, st := flatF rs, wait := 0 } ∧ (((flushR D L).2.1.down = false ∧ LogUp (flushR D L).2.1 (flushR D L).2.2 rs rs.length (n + 1)) ∨ Down D (flushR D L).2.1 (n + 1) Φ)) ∨
    ((flushR D L).1 = 24 ∧ (flushR D L).2.2 = L ∧ Down D (flushR D L).2.1 (n + 1) Φ) := by
  have hc := h.cnt
  have c0 := h.live.dur.c0
  have hr := h.room
  rw [h.st] at hr
  have hfo := flush_out h.live h0
  rw [h.st] at hfo
  rcases hfo with ⟨e, hd⟩ | ⟨e, e2, hd⟩
  · refine .inl ⟨e, hd.log, ?_⟩
    cases hdn : (flushR D L).2.1.down with
    | false => exact .inl ⟨rfl, h.after hd hdn h.ok hr hn⟩
    | true => exact .inr (done_down h hd hdn Φ hq)
  · refine .inr ⟨e, e2, hd.down, hd.sync, fun g hg => ?_, hd.size⟩
    rcases hd.mix g hg with h1 | h1
    · exact ⟨L.cnt, rs.take fl, c0, by omega, hp, h1⟩
    · exact ⟨L.cnt + 1, rs, by omega, by omega, hq, h1⟩
theorem LogUp.reset (h : LogUp D L rs fl n) (Φ : List (List Int) → Prop) (hp : Φ (rs.take fl)) (hq : Φ []) (hn : n + 1 < 1000000000000000000) :
    ((sealR D L 0).1 = 0 ∧ (sealR D L 0).2.2 = { cnt := L.cnt + 1, len := 0, st := [], wait := 0 } ∧ (((sealR D L 0).2.1.down = false ∧ LogUp (sealR D L 0).2.1 (sealR D L 0).2.2 [] 0 (n + 1)) ∨ Down D (sealR D L 0).2.1 (n + 1) Φ)) ∨
    ((sealR D L 0).1 = 24 ∧ (sealR D L 0).2.2 = L ∧ Down D (sealR D L 0).2.1 (n + 1) Φ) := by
  have hc := h.cnt
  have c0 := h.live.dur.c0
  have hs := h.size
  have e0 : L.st.take 0 = flatF [] := by simp [flatF]
  have := seal_out h.live 0 (Nat.zero_le _) (by rw [e0]; exact Has.nil _)
  rw [e0] at this
  rcases this with ⟨e, hd⟩ | ⟨e, e2, hd⟩
  · refine .inl ⟨e, hd.log, ?_⟩
    cases hdn : (sealR D L 0).2.1.down with
    | false => exact .inl ⟨rfl, h.after hd hdn RecsOk.nil (by show (0 : Int) ≤ _; omega) hn⟩
    | true => exact .inr (done_down h hd hdn Φ hq)
  · refine .inr ⟨e, e2, hd.down, hd.sync, fun g hg => ?_, hd.size⟩
    rcases hd.mix g hg with h1 | h1
    · exact ⟨L.cnt, rs.take fl, c0, by omega, hp, h1⟩
    · exact ⟨L.cnt + 1, [], by omega, by omega, hq, h1⟩
/-- where the disk is calm -/
theorem LogUp.flushC (h : LogUp D L rs fl n) (hc : D.calm) (hn : n + 1 < 1000000000000000000) :
    (flushR D L).1 = 0 ∧ (flushR D L).2.1.calm ∧ LogUp (flushR D L).2.1 (flushR D L).2.2 rs rs.length (n + 1) ∧ (flushR D L).2.2.st = L.st ∧ (flushR D L).2.2.wait = 0 ∧ (flushR D L).2.1.size = D.size := by
  obtain ⟨f1, f2⟩ := flush_calm hc L
  by_cases h0 : L.wait = 0
  · have e : flushR D L = (0, D, L) := by unfold flushR; rw [if_pos h0]
    have hfe : fl = rs.length := by have := h.wait; have := h.fle; omega
    rw [e]
    refine ⟨rfl, hc, ?_, rfl, h0, rfl⟩
    rw [← hfe]
    exact ⟨h.live, h.st, h.len, h.ok, h.fle, h.wait, by have := h.cnt; show L.cnt ≤ _; omega, hn, h.room, h.size⟩
  · rcases h.flush h0 (fun _ => True) trivial trivial hn with ⟨e, e2, h1 | h1⟩ | ⟨e, _⟩
    · have hz : (flushR D L).2.1.size = D.size := by
        rcases flush_out h.live h0 with ⟨_, hd⟩ | ⟨e3, _⟩
        · exact hd.size
        · rw [e] at e3; cases e3
      exact ⟨e, f2, h1.2, by rw [e2, h.st], by rw [e2], hz⟩
    · have := h1.down; rw [f2.2] at this; cases this
    · rw [f1] at e; cases e
theorem LogUp.resetC (h : LogUp D L rs fl n) (hc : D.calm) (hn : n + 1 < 1000000000000000000) :
    (sealR D L 0).1 = 0 ∧ (sealR D L 0).2.1.calm ∧ LogUp (sealR D L 0).2.1 (sealR D L 0).2.2 [] 0 (n + 1) ∧ (sealR D L 0).2.2.st = [] ∧ (sealR D L 0).2.1.size = D.size := by
  obtain ⟨f1, f2⟩ := seal_calm hc L 0
  rcases h.reset (fun _ => True) trivial trivial hn with ⟨e, e2, h1 | h1⟩ | ⟨e, _⟩
  · have hz : (sealR D L 0).2.1.size = D.size := by
      rcases seal_out h.live 0 (Nat.zero_le _) (by rw [List.take_zero]; exact Has.nil _) with ⟨_, hd⟩ | ⟨e3, _⟩
      · exact hd.size
      · rw [e] at e3; cases e3
    exact ⟨e, f2, h1.2, by rw [e2], hz⟩
  · have := h1.down; rw [f2.2] at this; cases this
  · rw [f1] at e; cases e
end
/-- behind a restart -/
theorem Down.back {D D' : Dsk} {n : Nat} {Φ : List (List Int) → Prop} (h : Down D D' n Φ) (ks : List Bool) (hs : 3 ≤ D.size ∧ D.size ≤ 65536) (h64 : ∀ k, ((D'.restart ks).now k).length = 64) (hn : n < 1000000000000000000)
    (hf : ∀ qs, Φ qs → ((flatF qs).length : Int) ≤ (D.size - 2) * 64 ∧ RecsOk qs) : ∃ L qs, Φ qs ∧ openR (D'.restart ks) = (0, some (L, qs)) ∧ LogUp (D'.restart ks) L qs qs.length n := by
  obtain ⟨h1, h2, h3, h4⟩ := restart_mix h.sync ks
  obtain ⟨c, qs, c0, c1, hq, hd⟩ := h.mix _ h1
  have hz : (D'.restart ks).size = D.size := h4.trans h.size
  obtain ⟨L, hL, hu⟩ := dur_up (D := D'.restart ks) rfl h3 h2.symm (by rw [hz]; exact hs) h64 c1 hn hd (by rw [hz]; exact (hf qs hq).1) (hf qs hq).2
  exact ⟨L, qs, hq, hL, hu⟩
/-- a disk that is up, restarted -/
theorem LogUp.back {D : Dsk} {L : Lg} {rs : List (List Int)} {fl n : Nat} (h : LogUp D L rs fl n) (ks : List Bool) (h64 : ∀ k, ((D.restart ks).now k).length = 64) : ∃ L', openR (D.restart ks) = (0, some (L', rs.take fl)) ∧ LogUp (D.restart ks) L' (rs.take fl) fl n := by
  have hsy : Synced D := by unfold Synced; rw [h.live.wait, h.live.same]; rfl
  obtain ⟨h1, h2, h3, h4⟩ := restart_mix hsy ks
  have hk : (D.restart ks).now = D.kept := funext fun x => by
    rcases h1 x with h5 | h5
    · exact h5
    · rw [h.live.wait] at h5; simp at h5
  have hl : (rs.take fl).length = fl := by rw [List.length_take]; have := h.fle; omega
  have hfit : ((flatF (rs.take fl)).length : Int) ≤ ((D.restart ks).size - 2) * 64 := by
    have := h.live.pre
    have h2 := h.room
    rw [h4, this, List.length_take]; omega
  have := dur_up (D := D.restart ks) rfl h3 h2.symm (by rw [h4]; exact h.size) h64 h.cnt h.n1 (by rw [hk]; exact h.live.dur) hfit (h.ok.take fl)
  rw [hl] at this
  exact this
end Go.Proofs.Ytihpobpkhhkejaa
