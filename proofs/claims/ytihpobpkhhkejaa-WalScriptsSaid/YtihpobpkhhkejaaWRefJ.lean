/-
  The document's disk and log in a zone of memory of their own, both sides' calls where the log may be nil, what stays true through a script, and both sides in two zones apart. Conditions: as each lemma says.
-/
import Derived.Test.YtihpobpkhhkejaaWRefF
import Derived.Test.YtihpobpkhhkejaaWCalls
import Derived.Test.YtihpobpkhhkejaaWRep
import Derived.Test.YtihpobpkhhkejaaRead
set_option autoImplicit false
namespace Go.Proofs.Ytihpobpkhhkejaa
open Go Go.RowKit

/-- the document's disk in the zone -/
structure Rd (w : World) (Y : Nat → Prop) (r : Nat) (D : Dsk) : Prop where
  disk : RefAt w r Y D
  lt : ∀ k, Y k → k < w.heap.size
/-- the document's disk and a log over it in the zone -/
structure Rn (w : World) (Y : Nat → Prop) (r m : Nat) (D : Dsk) (L : Lg) : Prop where
  parts : ∃ A F, RefAt w r A D ∧ RLogAt w m r F L ∧ (∀ k, A k → Y k) ∧ (∀ k, F k → Y k) ∧ ∀ k, A k → ¬ F k
  lt : ∀ k, Y k → k < w.heap.size
theorem RefAt.monoB {w : World} {r : Nat} {F G : Nat → Prop} {D : Dsk} (h : RefAt w r F D) (hG : ∀ k, F k → k < w.heap.size → G k) : RefAt w r G D := h.mono hG
theorem ext_lt {w w' : World} {Y : Nat → Prop} (h : ∀ k, Y k → k < w.heap.size) (hs : w.heap.size ≤ w'.heap.size) : ∀ k, Ext Y w w' k → k < w'.heap.size := fun k hk => by
  rcases hk with h1 | h1
  · exact Nat.lt_of_lt_of_le (h k h1) hs
  · exact h1.2
section
variable {w w' : World} {Y G : Nat → Prop} {r m : Nat} {D : Dsk} {L : Lg}
theorem Rn.rd (h : Rn w Y r m D L) : Rd w Y r D := by
  obtain ⟨A, F, h1, h2, h3, h4, h5⟩ := h.parts
  exact ⟨h1.mono (fun k hk _ => h3 k hk), h.lt⟩
theorem Rn.chg (h : Rn w Y r m D L) (c : Chg G w w') (hG : ∀ k, Y k → ¬ G k) : Rn w' Y r m D L := by
  obtain ⟨A, F, h1, h2, h3, h4, h5⟩ := h.parts
  exact ⟨⟨A, F, h1.chg c (fun k hk => hG k (h3 k hk)), h2.chg c (fun k hk => hG k (h4 k hk)), h3, h4, h5⟩, fun k hk => Nat.lt_of_lt_of_le (h.lt k hk) c.size⟩
theorem Rd.chg (h : Rd w Y r D) (c : Chg G w w') (hG : ∀ k, Y k → ¬ G k) : Rd w' Y r D :=
  ⟨h.disk.chg c hG, fun k hk => Nat.lt_of_lt_of_le (h.lt k hk) c.size⟩
theorem Rn.quiet (h : Rn w Y r m D L) (c : Chg (fun _ => False) w w') : Rn w' Y r m D L := h.chg c (fun _ _ h => h)
theorem Rd.quiet (h : Rd w Y r D) (c : Chg (fun _ => False) w w') : Rd w' Y r D := h.chg c (fun _ _ h => h)
theorem Rd.step {D' : Dsk} (h : Rd w Y r D) (hd : RefAt w' r (Ext Y w w') D') (c : Chg Y w w') : Rd w' (Ext Y w w') r D' ∧ Grow Y w (Ext Y w w') w' :=
  ⟨⟨hd, ext_lt h.lt c.size⟩, c, fun k hk => by
    rcases hk with h1 | h1
    · exact .inl h1
    · exact .inr h1.1⟩
/-- the disk has been worked on, a log stands beside it -/
theorem Rn.disk (h : Rn w Y r m D L) {D' : Dsk} (k : ∀ A, RefAt w r A D → (∀ k, A k → Y k) → (RefAt w' r (Ext A w w') D' ∧ Chg A w w')) : Rn w' (Ext Y w w') r m D' L ∧ Grow Y w (Ext Y w w') w' := by
  obtain ⟨A, F, h1, h2, h3, h4, h5⟩ := h.parts
  obtain ⟨k1, k2⟩ := k A h1 h3
  have c : Chg Y w w' := k2.mono (fun k hk => .inl (h3 k hk))
  refine ⟨⟨⟨Ext A w w', F, k1, h2.chg k2 (fun k hf ha => h5 k ha hf), fun k hk => hk.imp (h3 k) id, fun k hk => .inl (h4 k hk), fun k hk hf => ?_⟩, ext_lt h.lt c.size⟩, c, fun k hk => hk.imp id And.left⟩
  rcases hk with h6 | h6
  · exact h5 k h6 hf
  · have := h.lt k (h4 k hf); have := h6.1; omega
theorem rn_append (h : Rn w Y r m D L) (v : Value) (rec : List Int) (hr : BytR w Y v rec) (hmx : rec.length ≤ 1000000000000000) :
    Calls Try.prog 39 #[.pointer (some ⟨m, 0, none⟩), v] w fun e w' => ∃ Y', e = .returned (.int .i64 (appR D L rec).1) ∧ Rn w' Y' r m D (appR D L rec).2 ∧ Grow Y w Y' w' := by
  obtain ⟨ao, n, c, rfl⟩ : ∃ ao n c, v = .slice ao n c := by obtain ⟨_, _, ao, c, e, _⟩ := hr; exact ⟨ao, _, c, e⟩
  obtain ⟨A, F, h1, h2, h3, h4, h5⟩ := h.parts
  have hn := hr.get.1
  by_cases hf : (L.st.length : Int) + 4 + rec.length > (D.size - 2) * 64
  · refine (rappend_full m r A F D L w ao n c h1 h2 (by rw [hn]; exact hmx) (by rw [hn]; exact hf)).mono ?_
    rintro e w' ⟨rfl, x⟩
    rw [appR_full D L hf]
    exact ⟨Y, rfl, h.quiet x, x.mono (fun _ h => h.elim), fun k hk => .inl hk⟩
  · refine (rappend_ok m r A F D L w ao n c rec h1 h2 (hr.weaken (fun k _ hk => h4 k hk)) (by omega)).mono ?_
    rintro e w' ⟨rfl, hl, x⟩
    have e2 : appR D L rec = (0, { L with st := L.st ++ leN rec.length 4 ++ rec, wait := L.wait + 1 }) := by unfold appR; rw [if_neg (by omega)]
    rw [e2]
    have c : Chg Y w w' := x.mono (fun k hk => .inl (h4 k hk))
    refine ⟨Ext Y w w', rfl, ⟨⟨A, Ext F w w', h1.chg x (fun k hk hf => h5 k hk hf), hl, fun k hk => .inl (h3 k hk), fun k hk => hk.imp (h4 k) id, fun k hk hf => ?_⟩, ext_lt h.lt c.size⟩, c, fun k hk => hk.imp id And.left⟩
    rcases hf with h6 | h6
    · exact h5 k hk h6
    · have := h.lt k (h3 k hk); have := h6.1; omega
theorem rn_flush (h : Rn w Y r m D L) (hsz : 3 ≤ D.size) (hroom : (L.st.length : Int) ≤ (D.size - 2) * 64) (hlen : D.wait.length < 2800000000000) :
    Calls Try.prog 40 #[.pointer (some ⟨m, 0, none⟩)] w fun e w' => ∃ Y', e = .returned (.int .i64 (flushR D L).1) ∧ Rn w' Y' r m (flushR D L).2.1 (flushR D L).2.2 ∧ Grow Y w Y' w' := by
  obtain ⟨A, F, h1, h2, h3, h4, h5⟩ := h.parts
  refine (rflush_any m r A F D L w h1 h2 h5 hsz hroom hlen).mono ?_
  rintro e w' ⟨rfl, A', F', k1, k2, k3, k4, k5, x⟩
  have c : Chg Y w w' := x.mono (fun k hk => .inl (hk.elim (h3 k) (h4 k)))
  exact ⟨Ext Y w w', rfl, ⟨⟨A', F', k1, k2, fun k hk => (k3 k hk).imp (h3 k) id, fun k hk => (k4 k hk).imp (h4 k) id, k5⟩, ext_lt h.lt c.size⟩, c, fun k hk => hk.imp id And.left⟩
theorem rn_reset (h : Rn w Y r m D L) (hsz : 3 ≤ D.size) (hlen : D.wait.length < 2900000000000) :
    Calls Try.prog 41 #[.pointer (some ⟨m, 0, none⟩)] w fun e w' => ∃ Y', e = .returned (.int .i64 (sealR D L 0).1) ∧ Rn w' Y' r m (sealR D L 0).2.1 (sealR D L 0).2.2 ∧ Grow Y w Y' w' := by
  obtain ⟨A, F, h1, h2, h3, h4, h5⟩ := h.parts
  refine (rreset_any m r A F D L w h1 h2 h5 hsz hlen).mono ?_
  rintro e w' ⟨rfl, k1, k2, x⟩
  have c : Chg Y w w' := x.mono (fun k hk => .inl (hk.elim (h3 k) (h4 k)))
  refine ⟨Ext Y w w', rfl, ⟨⟨Ext A w w', F, k1, k2, fun k hk => hk.imp (h3 k) id, fun k hk => .inl (h4 k hk), fun k hk hf => ?_⟩, ext_lt h.lt c.size⟩, c, fun k hk => hk.imp id And.left⟩
  rcases hk with h6 | h6
  · exact h5 k h6 hf
  · have := h.lt k (h4 k hf); have := h6.1; omega
theorem rn_arm (h : Rn w Y r m D L) (n : Int) (hn : n ≤ 9223372036854775807) :
    Calls Try.prog 42 #[.pointer (some ⟨r, 0, none⟩), .int .i64 n] w fun e w' => ∃ Y', e = .returned (.tuple #[]) ∧ Rn w' Y' r m (D.arm n) L ∧ Grow Y w Y' w' := by
  obtain ⟨A, F, h1, h2, h3, h4, h5⟩ := h.parts
  refine (rarm_any r A D w n hn h1).mono ?_
  rintro e w' ⟨rfl, k1, x⟩
  have c : Chg Y w w' := x.mono (fun k hk => .inl (h3 k hk))
  exact ⟨Y, rfl, ⟨⟨A, F, k1, h2.chg x (fun k hf ha => h5 k ha hf), h3, h4, h5⟩, fun k hk => Nat.lt_of_lt_of_le (h.lt k hk) c.size⟩, c, fun k hk => .inl hk⟩
theorem rd_arm (h : Rd w Y r D) (n : Int) (hn : n ≤ 9223372036854775807) :
    Calls Try.prog 42 #[.pointer (some ⟨r, 0, none⟩), .int .i64 n] w fun e w' => ∃ Y', e = .returned (.tuple #[]) ∧ Rd w' Y' r (D.arm n) ∧ Grow Y w Y' w' := by
  refine (rarm_any r Y D w n hn h.disk).mono ?_
  rintro e w' ⟨rfl, k1, x⟩
  exact ⟨Y, rfl, ⟨k1, fun k hk => Nat.lt_of_lt_of_le (h.lt k hk) x.size⟩, x, fun k hk => .inl hk⟩
end
section
variable {w w' : World} {Y Z G : Nat → Prop} {r m d l : Nat} {D : Dsk} {L : Lg}
theorem rn_write (h : Rn w Y r m D L) (n : Int) (s : Sec) (hs : s.length = 64) (hlen : D.wait.length < 3000000000000) :
    Calls Try.prog 44 #[.pointer (some ⟨r, 0, none⟩), .int .i64 n, .agg (secC s).toArray] w fun e w' => ∃ Y', e = .returned (.int .i64 (errOf D.size D.down n)) ∧ Rn w' Y' r m (D.writeR n s) L ∧ Grow Y w Y' w' := by
  obtain ⟨A, F, h1, h2, h3, h4, h5⟩ := h.parts
  refine (rwrite_any r A D n s w h1 hs hlen).mono ?_
  rintro e w' ⟨rfl, k1, x⟩
  have c : Chg Y w w' := x.mono (fun k hk => .inl (h3 k hk))
  refine ⟨Ext Y w w', rfl, ⟨⟨Ext A w w', F, k1, h2.chg x (fun k hf ha => h5 k ha hf), fun k hk => hk.imp (h3 k) id, fun k hk => .inl (h4 k hk), fun k hk hf => ?_⟩, ext_lt h.lt c.size⟩, c, fun k hk => hk.imp id And.left⟩
  rcases hk with h6 | h6
  · exact h5 k h6 hf
  · have := h.lt k (h4 k hf); have := h6.1; omega
theorem rd_write (h : Rd w Y r D) (n : Int) (s : Sec) (hs : s.length = 64) (hlen : D.wait.length < 3000000000000) :
    Calls Try.prog 44 #[.pointer (some ⟨r, 0, none⟩), .int .i64 n, .agg (secC s).toArray] w fun e w' => ∃ Y', e = .returned (.int .i64 (errOf D.size D.down n)) ∧ Rd w' Y' r (D.writeR n s) ∧ Grow Y w Y' w' := by
  refine (rwrite_any r Y D n s w h.disk hs hlen).mono ?_
  rintro e w' ⟨rfl, k1, x⟩
  exact ⟨_, rfl, h.step k1 x⟩
theorem rd_restart (h : Rd w Y r D) (v : Value) (ks : List Bool) (hv : BoolsAt w Y v ks) :
    Calls Try.prog 28 #[.pointer (some ⟨r, 0, none⟩), v] w fun e w' => ∃ Y', e = .returned (.tuple #[]) ∧ Rd w' Y' r (D.restart ks) ∧ Grow Y w Y' w' := by
  refine (rrestart_any r Y D w v ks h.disk hv).mono ?_
  rintro e w' ⟨rfl, k1, x⟩
  exact ⟨_, rfl, h.step k1 x⟩
theorem rd_new (n : Int) (w : World) : Calls Try.prog 25 #[.int .i64 n] w fun e w' => ∃ r Y, e = .returned (.pointer (some ⟨r, 0, none⟩)) ∧ Rd w' Y r (Dsk.new n) ∧ Grow (fun _ => False) w Y w' :=
  (rnew_any n w).mono fun _ _ ⟨r, he, h, c⟩ => ⟨r, _, he, ⟨h.mono (fun _ hk _ => hk), fun k hk => by
    rcases hk with h | h
    · exact h.elim
    · exact h.2⟩, c, fun _ hk => hk.imp id And.left⟩
theorem zd_write (h : Zd w Z d D) (n : Int) (s : Sec) (hs : s.length = 64) (hlen : D.wait.length < 3000000000000) :
    Calls Try.prog 16 #[.pointer (some ⟨d, 0, none⟩), .int .i64 n, secV s] w fun e w' => ∃ Z', e = .returned (.int .i64 (errOf D.size D.down n)) ∧ Zd w' Z' d (D.writeR n s) ∧ Grow Z w Z' w' := by
  refine (write_any d Z D n s w h.disk hs hlen).mono ?_
  rintro e w' ⟨rfl, k1, x⟩
  exact ⟨_, rfl, h.step k1 x⟩
theorem zn_write (h : Zn w Z d l D L) (n : Int) (s : Sec) (hs : s.length = 64) (hlen : D.wait.length < 3000000000000) :
    Calls Try.prog 16 #[.pointer (some ⟨d, 0, none⟩), .int .i64 n, secV s] w fun e w' => ∃ Z', e = .returned (.int .i64 (errOf D.size D.down n)) ∧ Zn w' Z' d l (D.writeR n s) L ∧ Grow Z w Z' w' := by
  obtain ⟨A, F, h1, h2, h3, h4, h5⟩ := h.parts
  refine (write_any d A D n s w h1 hs hlen).mono ?_
  rintro e w' ⟨rfl, k1, x⟩
  have c : Chg Z w w' := x.mono (fun k hk => .inl (h3 k hk))
  refine ⟨Ext Z w w', rfl, ⟨⟨Ext A w w', F, k1, h2.chg x (fun k hf ha => h5 k ha hf), fun k hk => hk.imp (h3 k) id, fun k hk => .inl (h4 k hk), fun k hk hf => ?_⟩, ext_lt h.lt c.size⟩, c, fun k hk => hk.imp id And.left⟩
  rcases hk with h6 | h6
  · exact h5 k h6 hf
  · have := h.lt k (h4 k hf); have := h6.1; omega
end
/-- the log's side: a disk, and a log or nil -/
def LoW (w : World) (Z : Nat → Prop) (d : Nat) (D : Dsk) (v : Value) : Option Lg → Prop
  | none => v = .pointer none ∧ Zd w Z d D
  | some L => ∃ l, v = .pointer (some ⟨l, 0, none⟩) ∧ Zn w Z d l D L
/-- the document's side -/
def LoR (w : World) (Y : Nat → Prop) (r : Nat) (D : Dsk) (v : Value) : Option Lg → Prop
  | none => v = .pointer none ∧ Rd w Y r D
  | some L => ∃ m, v = .pointer (some ⟨m, 0, none⟩) ∧ Rn w Y r m D L
def appO (D : Dsk) (o : Option Lg) (rec : List Int) : Int × Option Lg := match o with | none => (2, none) | some L => ((appR D L rec).1, some (appR D L rec).2)
def flushO (D : Dsk) (o : Option Lg) : Int × Dsk × Option Lg := match o with | none => (2, D, none) | some L => ((flushR D L).1, (flushR D L).2.1, some (flushR D L).2.2)
def resetO (D : Dsk) (o : Option Lg) : Int × Dsk × Option Lg := match o with | none => (2, D, none) | some L => ((sealR D L 0).1, (sealR D L 0).2.1, some (sealR D L 0).2.2)
/-- what an opened log needs of the disk -/
def RoomO (D : Dsk) (o : Option Lg) : Prop := ∀ L, o = some L → 3 ≤ D.size ∧ (L.st.length : Int) ≤ (D.size - 2) * 64
section
variable {w w' : World} {Y Z G : Nat → Prop} {r m d l : Nat} {D : Dsk} {L : Lg} {v : Value} {o : Option Lg}
theorem LoW.zd (h : LoW w Z d D v o) : Zd w Z d D := by
  cases o with
  | none => exact h.2
  | some L => obtain ⟨l, _, h⟩ := h; exact h.zd
theorem LoR.rd (h : LoR w Y r D v o) : Rd w Y r D := by
  cases o with
  | none => exact h.2
  | some L => obtain ⟨l, _, h⟩ := h; exact h.rd
theorem LoW.chg (h : LoW w Z d D v o) (c : Chg G w w') (hG : ∀ k, Z k → ¬ G k) : LoW w' Z d D v o := by
  cases o with
  | none => exact ⟨h.1, h.2.chg c hG⟩
  | some L => obtain ⟨l, h1, h2⟩ := h; exact ⟨l, h1, h2.chg c hG⟩
theorem LoR.chg (h : LoR w Y r D v o) (c : Chg G w w') (hG : ∀ k, Y k → ¬ G k) : LoR w' Y r D v o := by
  cases o with
  | none => exact ⟨h.1, h.2.chg c hG⟩
  | some L => obtain ⟨l, h1, h2⟩ := h; exact ⟨l, h1, h2.chg c hG⟩
theorem lo_append (h : LoW w Z d D v o) (x : Value) (rec : List Int) (hr : BytR w Z x rec) :
    Calls Try.prog 32 #[v, x] w fun e w' => ∃ Z', e = .returned (.int .i64 (appO D o rec).1) ∧ LoW w' Z' d D v (appO D o rec).2 ∧ Grow Z w Z' w' := by
  cases o with
  | none =>
    obtain ⟨rfl, h⟩ := h
    refine (append_nil x w).mono ?_
    rintro e w' ⟨rfl, rfl⟩
    exact ⟨Z, rfl, ⟨rfl, h⟩, Grow.refl _ _⟩
  | some L =>
    obtain ⟨l, rfl, h⟩ := h
    refine (zn_append h x rec hr).mono ?_
    rintro e w' ⟨Z', rfl, h2, g⟩
    exact ⟨Z', rfl, ⟨l, rfl, h2⟩, g⟩
theorem ro_append (h : LoR w Y r D v o) (x : Value) (rec : List Int) (hr : BytR w Y x rec) (hmx : rec.length ≤ 1000000000000000) :
    Calls Try.prog 39 #[v, x] w fun e w' => ∃ Y', e = .returned (.int .i64 (appO D o rec).1) ∧ LoR w' Y' r D v (appO D o rec).2 ∧ Grow Y w Y' w' := by
  cases o with
  | none =>
    obtain ⟨rfl, h⟩ := h
    refine (rappend_nil x w).mono ?_
    rintro e w' ⟨rfl, rfl⟩
    exact ⟨Y, rfl, ⟨rfl, h⟩, Grow.refl _ _⟩
  | some L =>
    obtain ⟨l, rfl, h⟩ := h
    refine (rn_append h x rec hr hmx).mono ?_
    rintro e w' ⟨Y', rfl, h2, g⟩
    exact ⟨Y', rfl, ⟨l, rfl, h2⟩, g⟩
theorem lo_flush (h : LoW w Z d D v o) (hro : RoomO D o) (hlen : D.wait.length < 2800000000000) :
    Calls Try.prog 35 #[v] w fun e w' => ∃ Z', e = .returned (.int .i64 (flushO D o).1) ∧ LoW w' Z' d (flushO D o).2.1 v (flushO D o).2.2 ∧ Grow Z w Z' w' := by
  cases o with
  | none =>
    obtain ⟨rfl, h⟩ := h
    refine (flush_nil w).mono ?_
    rintro e w' ⟨rfl, rfl⟩
    exact ⟨Z, rfl, ⟨rfl, h⟩, Grow.refl _ _⟩
  | some L =>
    obtain ⟨l, rfl, h⟩ := h
    refine (zn_flush h (hro L rfl).1 (hro L rfl).2 hlen).mono ?_
    rintro e w' ⟨Z', rfl, h2, g⟩
    exact ⟨Z', rfl, ⟨l, rfl, h2⟩, g⟩
theorem ro_flush (h : LoR w Y r D v o) (hro : RoomO D o) (hlen : D.wait.length < 2800000000000) :
    Calls Try.prog 40 #[v] w fun e w' => ∃ Y', e = .returned (.int .i64 (flushO D o).1) ∧ LoR w' Y' r (flushO D o).2.1 v (flushO D o).2.2 ∧ Grow Y w Y' w' := by
  cases o with
  | none =>
    obtain ⟨rfl, h⟩ := h
    refine (rflush_nil w).mono ?_
    rintro e w' ⟨rfl, rfl⟩
    exact ⟨Y, rfl, ⟨rfl, h⟩, Grow.refl _ _⟩
  | some L =>
    obtain ⟨l, rfl, h⟩ := h
    refine (rn_flush h (hro L rfl).1 (hro L rfl).2 hlen).mono ?_
    rintro e w' ⟨Y', rfl, h2, g⟩
    exact ⟨Y', rfl, ⟨l, rfl, h2⟩, g⟩
theorem lo_reset (h : LoW w Z d D v o) (hro : RoomO D o) (hlen : D.wait.length < 2800000000000) :
    Calls Try.prog 36 #[v] w fun e w' => ∃ Z', e = .returned (.int .i64 (resetO D o).1) ∧ LoW w' Z' d (resetO D o).2.1 v (resetO D o).2.2 ∧ Grow Z w Z' w' := by
  cases o with
  | none =>
    obtain ⟨rfl, h⟩ := h
    refine (reset_nil w).mono ?_
    rintro e w' ⟨rfl, rfl⟩
    exact ⟨Z, rfl, ⟨rfl, h⟩, Grow.refl _ _⟩
  | some L =>
    obtain ⟨l, rfl, h⟩ := h
    refine (zn_reset h (hro L rfl).1 hlen).mono ?_
    rintro e w' ⟨Z', rfl, h2, g⟩
    exact ⟨Z', rfl, ⟨l, rfl, h2⟩, g⟩
theorem ro_reset (h : LoR w Y r D v o) (hro : RoomO D o) (hlen : D.wait.length < 2800000000000) :
    Calls Try.prog 41 #[v] w fun e w' => ∃ Y', e = .returned (.int .i64 (resetO D o).1) ∧ LoR w' Y' r (resetO D o).2.1 v (resetO D o).2.2 ∧ Grow Y w Y' w' := by
  cases o with
  | none =>
    obtain ⟨rfl, h⟩ := h
    refine (rreset_nil w).mono ?_
    rintro e w' ⟨rfl, rfl⟩
    exact ⟨Y, rfl, ⟨rfl, h⟩, Grow.refl _ _⟩
  | some L =>
    obtain ⟨l, rfl, h⟩ := h
    refine (rn_reset h (hro L rfl).1 (by omega)).mono ?_
    rintro e w' ⟨Y', rfl, h2, g⟩
    exact ⟨Y', rfl, ⟨l, rfl, h2⟩, g⟩
theorem lo_arm (h : LoW w Z d D v o) (n : Int) (hn : n ≤ 9223372036854775807) :
    Calls Try.prog 21 #[.pointer (some ⟨d, 0, none⟩), .int .i64 n] w fun e w' => ∃ Z', e = .returned (.tuple #[]) ∧ LoW w' Z' d (D.arm n) v o ∧ Grow Z w Z' w' := by
  cases o with
  | none => exact (zd_arm h.2 n hn).mono fun e w' ⟨Z', he, h2, g⟩ => ⟨Z', he, ⟨h.1, h2⟩, g⟩
  | some L =>
    obtain ⟨l, rfl, h⟩ := h
    exact (zn_arm h n hn).mono fun e w' ⟨Z', he, h2, g⟩ => ⟨Z', he, ⟨l, rfl, h2⟩, g⟩
theorem ro_arm (h : LoR w Y r D v o) (n : Int) (hn : n ≤ 9223372036854775807) :
    Calls Try.prog 42 #[.pointer (some ⟨r, 0, none⟩), .int .i64 n] w fun e w' => ∃ Y', e = .returned (.tuple #[]) ∧ LoR w' Y' r (D.arm n) v o ∧ Grow Y w Y' w' := by
  cases o with
  | none => exact (rd_arm h.2 n hn).mono fun e w' ⟨Z', he, h2, g⟩ => ⟨Z', he, ⟨h.1, h2⟩, g⟩
  | some L =>
    obtain ⟨l, rfl, h⟩ := h
    exact (rn_arm h n hn).mono fun e w' ⟨Z', he, h2, g⟩ => ⟨Z', he, ⟨l, rfl, h2⟩, g⟩
theorem lo_write (h : LoW w Z d D v o) (n : Int) (s : Sec) (hs : s.length = 64) (hlen : D.wait.length < 3000000000000) :
    Calls Try.prog 16 #[.pointer (some ⟨d, 0, none⟩), .int .i64 n, secV s] w fun e w' => ∃ Z', e = .returned (.int .i64 (errOf D.size D.down n)) ∧ LoW w' Z' d (D.writeR n s) v o ∧ Grow Z w Z' w' := by
  cases o with
  | none => exact (zd_write h.2 n s hs hlen).mono fun e w' ⟨Z', he, h2, g⟩ => ⟨Z', he, ⟨h.1, h2⟩, g⟩
  | some L =>
    obtain ⟨l, rfl, h⟩ := h
    exact (zn_write h n s hs hlen).mono fun e w' ⟨Z', he, h2, g⟩ => ⟨Z', he, ⟨l, rfl, h2⟩, g⟩
theorem ro_write (h : LoR w Y r D v o) (n : Int) (s : Sec) (hs : s.length = 64) (hlen : D.wait.length < 3000000000000) :
    Calls Try.prog 44 #[.pointer (some ⟨r, 0, none⟩), .int .i64 n, .agg (secC s).toArray] w fun e w' => ∃ Y', e = .returned (.int .i64 (errOf D.size D.down n)) ∧ LoR w' Y' r (D.writeR n s) v o ∧ Grow Y w Y' w' := by
  cases o with
  | none => exact (rd_write h.2 n s hs hlen).mono fun e w' ⟨Z', he, h2, g⟩ => ⟨Z', he, ⟨h.1, h2⟩, g⟩
  | some L =>
    obtain ⟨l, rfl, h⟩ := h
    exact (rn_write h n s hs hlen).mono fun e w' ⟨Z', he, h2, g⟩ => ⟨Z', he, ⟨l, rfl, h2⟩, g⟩
theorem lo_waiting (h : LoW w Z d D v o) : Calls Try.prog 34 #[v] w fun e w' => e = .returned (.int .i64 (o.elim 0 (·.wait))) ∧ w = w' := by
  cases o with
  | none => obtain ⟨rfl, h⟩ := h; exact waitingL_nil w
  | some L => obtain ⟨l, rfl, h⟩ := h; exact zn_waiting h
theorem lo_used (h : LoW w Z d D v o) : Calls Try.prog 33 #[v] w fun e w' => e = .returned (.int .i64 (o.elim 0 (fun L => (L.st.length : Int)))) ∧ w = w' := by
  cases o with
  | none => obtain ⟨rfl, h⟩ := h; exact used_nil w
  | some L => obtain ⟨l, rfl, h⟩ := h; exact zn_used h
/-- what Open comes to on either side -/
theorem lo_open (h : Zd w Z d D) (hby : ∀ k, Bytes (D.now k)) :
    Calls Try.prog 31 #[.pointer (some ⟨d, 0, none⟩)] w fun e w' => ∃ lv pv Z', e = .returned (.tuple #[lv, pv, .int .i64 (openR D).1]) ∧ LoW w' Z' d D lv ((openR D).2.map (·.1)) ∧ RecsR w' Z' pv (((openR D).2.map (·.2)).getD []) ∧ Grow Z w Z' w' ∧ Chg (fun _ => False) w w' := by
  refine (open_any d Z D w h.disk hby).mono ?_
  rintro e w' ⟨hp, x⟩
  unfold OpenPost at hp
  cases ho : (openR D).2 with
  | none =>
    rw [ho] at hp
    exact ⟨_, _, Z, hp, ⟨rfl, h.quiet x⟩, RecsR.nil _ _, ⟨x.mono (fun _ h => h.elim), fun k hk => .inl hk⟩, x⟩
  | some p =>
    rw [ho] at hp
    obtain ⟨l, pv, F, he, hl, hF, hr, _⟩ := hp
    refine ⟨_, pv, fun k => Z k ∨ F k, he, ⟨l, rfl, ⟨Z, F, h.disk.chg x (fun _ _ h => h), hl, fun k hk => .inl hk, fun k hk => .inr hk, fun k hk hf => ?_⟩, fun k hk => ?_⟩, hr.weaken (fun k hl hk => hk.imp (fun hz => h.lt k hz) id), ⟨x.mono (fun _ h => h.elim), fun k hk => hk.imp id (fun hf => (hF k hf).1)⟩, x⟩
    · have := h.lt k hk; have := (hF k hf).1; omega
    · rcases hk with h1 | h1
      · exact Nat.lt_of_lt_of_le (h.lt k h1) x.size
      · exact (hF k h1).2
theorem ro_open (h : Rd w Y r D) (hby : ∀ k, Bytes (D.now k)) :
    Calls Try.prog 38 #[.pointer (some ⟨r, 0, none⟩)] w fun e w' => ∃ mv pv Y', e = .returned (.tuple #[mv, pv, .int .i64 (openR D).1]) ∧ LoR w' Y' r D mv ((openR D).2.map (·.1)) ∧ RecsR w' Y' pv (((openR D).2.map (·.2)).getD []) ∧ Grow Y w Y' w' ∧ Chg (fun _ => False) w w' := by
  refine (ropen_any r Y D w h.disk hby).mono ?_
  rintro e w' ⟨hp, x⟩
  unfold ROpenPost at hp
  cases ho : (openR D).2 with
  | none =>
    rw [ho] at hp
    exact ⟨_, _, Y, hp, ⟨rfl, h.quiet x⟩, RecsR.nil _ _, ⟨x.mono (fun _ h => h.elim), fun k hk => .inl hk⟩, x⟩
  | some p =>
    rw [ho] at hp
    obtain ⟨l, pv, F, he, hl, hF, hr⟩ := hp
    refine ⟨_, pv, fun k => Y k ∨ F k, he, ⟨l, rfl, ⟨Y, F, h.disk.chg x (fun _ _ h => h), hl, fun k hk => .inl hk, fun k hk => .inr hk, fun k hk hf => ?_⟩, fun k hk => ?_⟩, hr.weaken (fun k hl hk => hk.imp (fun hz => h.lt k hz) id), ⟨x.mono (fun _ h => h.elim), fun k hk => hk.imp id (fun hf => (hF k hf).1)⟩, x⟩
    · have := h.lt k hk; have := (hF k hf).1; omega
    · rcases hk with h1 | h1
      · exact Nat.lt_of_lt_of_le (h.lt k h1) x.size
      · exact (hF k h1).2
end
structure InvS (D : Dsk) (o : Option Lg) (k : Nat) : Prop where
  byt : D.byt
  room : RoomO D o
  wait : D.wait.length ≤ k + (if D.down then 45 else 0)
  size : D.size ≤ 40
theorem wrs_false : ∀ (l : List (Int × Sec)) (D : Dsk), (D.wrs l).2 = false → (D.wrs l).1.down = true
  | [], D, h => by simp [Dsk.wrs] at h
  | x :: r, D, h => by
    unfold Dsk.wrs at h ⊢
    split
    · rename_i hd; exact hd
    · rename_i hd
      rw [if_neg hd] at h
      exact wrs_false r _ h
theorem sync_wait (D : Dsk) : D.sync.wait = [] ∧ D.sync.size = D.size := by
  unfold Dsk.sync Dsk.change
  split <;> exact ⟨rfl, rfl⟩
theorem wrs_size : ∀ (l : List (Int × Sec)) (D : Dsk), (D.wrs l).1.size = D.size
  | [], D => rfl
  | x :: r, D => by
    unfold Dsk.wrs
    split
    · rfl
    · rw [wrs_size r, (write_size D x.1 x.2).1]
theorem sealR_shape (D : Dsk) (L : Lg) (n : Nat) : (sealR D L n).2.1.size = D.size ∧ (((sealR D L n).2.1 = D ∧ D.down = true) ∨ (sealR D L n).2.1.wait = [] ∨ ((sealR D L n).2.1.down = true ∧ (sealR D L n).2.1.wait.length ≤ D.wait.length + 1)) := by
  unfold sealR
  split
  · rename_i h; exact ⟨rfl, .inl ⟨rfl, h⟩⟩
  · have hw := write_size D (up64 L.cnt % 2) (headSec (up64 L.cnt) n)
    split
    · rename_i h; exact ⟨hw.1, .inr (.inr ⟨h, by show (D.write _ _).wait.length ≤ _; rw [hw.2]; simp⟩)⟩
    · exact ⟨(sync_wait _).2.trans hw.1, .inr (.inl (sync_wait _).1)⟩
theorem flushR_shape (D : Dsk) (L : Lg) : (flushR D L).2.1.size = D.size ∧ ((flushR D L).2.1 = D ∨ (flushR D L).2.1.wait = [] ∨ ((flushR D L).2.1.down = true ∧ (flushR D L).2.1.wait.length ≤ D.wait.length + L.st.length / 64 + 2)) := by
  have hw := flush_wait D L
  unfold flushR at hw ⊢
  split
  · exact ⟨rfl, .inl rfl⟩
  · rename_i h0
    rw [if_neg h0] at hw
    split
    · rename_i h1
      rw [if_pos h1] at hw
      exact ⟨wrs_size _ _, .inr (.inr ⟨wrs_false _ _ h1, hw⟩)⟩
    · rename_i h1
      rw [if_neg h1] at hw
      split
      · rename_i h2
        rw [if_pos h2] at hw
        exact ⟨wrs_size _ _, .inr (.inr ⟨h2, hw⟩)⟩
      · rename_i h2
        rw [if_neg h2] at hw
        have hs := sealR_shape (D.wrs L.todo).1.sync L L.st.length
        refine ⟨hs.1.trans ((sync_wait _).2.trans (wrs_size _ _)), ?_⟩
        rcases hs.2 with h3 | h3 | h3
        · refine .inr (.inl ?_)
          rw [h3.1]; exact (sync_wait _).1
        · exact .inr (.inl h3)
        · exact .inr (.inr ⟨h3.1, hw⟩)
theorem flushR_down {D : Dsk} (L : Lg) (hd : D.down = true) : (flushR D L).2.1 = D := by
  unfold flushR
  split
  · rfl
  · cases ht : L.todo with
    | nil =>
      rw [show D.wrs [] = (D, true) from rfl, if_neg (by simp), if_pos hd]
    | cons x r =>
      have : D.wrs (x :: r) = (D, false) := by unfold Dsk.wrs; rw [if_pos hd]
      rw [this, if_pos rfl]
theorem flushR_log (D : Dsk) (L : Lg) : (flushR D L).2.2.st = L.st := by
  unfold flushR
  split
  · rfl
  · split
    · rfl
    · split
      · rfl
      · rcases sealR_cases (D.wrs L.todo).1.sync L L.st.length with h | h
        · rw [h.2]
        · rw [h.2]; exact List.take_length
section
variable {D : Dsk} {o : Option Lg} {k : Nat}
theorem InvS.append (h : InvS D o k) (rec : List Int) : InvS D (appO D o rec).2 (k + 1) := by
  refine ⟨h.byt, ?_, by have := h.wait; omega, h.size⟩
  cases o with
  | none => exact fun L hL => by cases hL
  | some L =>
    intro L' hL
    obtain rfl := Option.some.inj hL
    obtain ⟨h1, h2⟩ := h.room L rfl
    refine ⟨h1, ?_⟩
    unfold appR
    split
    · exact h2
    · simp only [List.length_append, leN_len]; omega
theorem InvS.flush (h : InvS D o k) (hb : ∀ L, o = some L → Bytes L.st) : InvS (flushO D o).2.1 (flushO D o).2.2 (k + 1) := by
  cases o with
  | none => exact ⟨h.byt, h.room, by have := h.wait; show D.wait.length ≤ k + 1 + (if D.down then 45 else 0); omega, h.size⟩
  | some L =>
    obtain ⟨h1, h2⟩ := h.room L rfl
    have hsh := flushR_shape D L
    have hw := h.wait
    have hs := h.size
    refine ⟨byt_flush h.byt (hb L rfl), fun L' hL => ?_, ?_, by show (flushR D L).2.1.size ≤ 40; omega⟩
    · obtain rfl := Option.some.inj hL
      show 3 ≤ (flushR D L).2.1.size ∧ ((flushR D L).2.2.st.length : Int) ≤ ((flushR D L).2.1.size - 2) * 64
      rw [hsh.1, flushR_log]
      exact ⟨h1, h2⟩
    · show (flushR D L).2.1.wait.length ≤ k + 1 + (if (flushR D L).2.1.down then 45 else 0)
      cases hd : D.down with
      | true => rw [flushR_down L hd]; omega
      | false =>
        rw [hd] at hw
        rcases hsh.2 with h3 | h3 | h3
        · rw [h3, hd]; simp only [Bool.false_eq_true, if_false] at hw ⊢; omega
        · rw [h3]; simp
        · rw [h3.1, if_pos rfl]
          have := h3.2
          simp only [Bool.false_eq_true, if_false] at hw
          omega
theorem InvS.reset (h : InvS D o k) : InvS (resetO D o).2.1 (resetO D o).2.2 (k + 1) := by
  cases o with
  | none => exact ⟨h.byt, h.room, by have := h.wait; show D.wait.length ≤ k + 1 + (if D.down then 45 else 0); omega, h.size⟩
  | some L =>
    obtain ⟨h1, h2⟩ := h.room L rfl
    have hsh := sealR_shape D L 0
    have hw := h.wait
    have hs := h.size
    refine ⟨byt_seal h.byt L 0, fun L' hL => ?_, ?_, by show (sealR D L 0).2.1.size ≤ 40; omega⟩
    · obtain rfl := Option.some.inj hL
      show 3 ≤ (sealR D L 0).2.1.size ∧ ((sealR D L 0).2.2.st.length : Int) ≤ ((sealR D L 0).2.1.size - 2) * 64
      rw [hsh.1]
      refine ⟨h1, ?_⟩
      rcases sealR_cases D L 0 with h3 | h3
      · rw [h3.2]; exact h2
      · rw [h3.2]; simp only [List.take_zero, List.length_nil]; omega
    · show (sealR D L 0).2.1.wait.length ≤ k + 1 + (if (sealR D L 0).2.1.down then 45 else 0)
      rcases hsh.2 with h3 | h3 | h3
      · rw [h3.1]; omega
      · rw [h3]; simp
      · rw [h3.1, if_pos rfl]
        have := h3.2
        split at hw <;> omega
theorem InvS.arm (h : InvS D o k) (n : Int) : InvS (D.arm n) o (k + 1) := by
  have hb := byt_arm h.byt n
  have hw := h.wait
  by_cases hd : D.down = true
  · have e : D.arm n = D := by unfold Dsk.arm; rw [if_pos hd]
    rw [e]
    exact ⟨h.byt, h.room, by omega, h.size⟩
  · rw [if_neg hd] at hw
    have e : (D.arm n).wait = D.wait ∧ (D.arm n).size = D.size := by unfold Dsk.arm; rw [if_neg hd]; exact ⟨rfl, rfl⟩
    exact ⟨hb, fun L hL => by rw [e.2]; exact h.room L hL, by rw [e.1]; omega, by rw [e.2]; exact h.size⟩
theorem InvS.write (h : InvS D o k) (n : Int) {s : Sec} (hs : Bytes s) : InvS (D.writeR n s) o (k + 1) := by
  have hw := h.wait
  unfold Dsk.writeR
  split
  · rename_i he
    have hd : D.down = false := by
      cases hd : D.down with
      | false => rfl
      | true =>
        rw [hd] at he
        unfold errOf at he
        split at he
        · exact absurd he (by decide)
        · exact absurd he (by decide)
    have hws := write_size D n s
    refine ⟨byt_write h.byt n hs, fun L hL => ?_, ?_, by rw [hws.1]; exact h.size⟩
    · rw [hws.1]; exact h.room L hL
    · rw [hws.2, List.length_append, List.length_singleton]
      rw [hd] at hw
      simp only [Bool.false_eq_true, if_false] at hw
      omega
  · exact ⟨h.byt, h.room, by omega, h.size⟩
theorem restart_wait (D : Dsk) (ks : List Bool) : (D.restart ks).wait = [] ∧ (D.restart ks).down = false := ⟨rfl, rfl⟩
theorem room_open (D : Dsk) (h64 : ∀ k, (D.now k).length = 64) : RoomO D ((openR D).2.map (·.1)) := by
  intro L hL
  unfold openR at hL
  split at hL
  · simp at hL
  · split at hL
    · simp at hL
    · split at hL
      · simp at hL
      · split at hL
        · simp at hL
        · simp only [Option.map_some, Option.some.injEq] at hL
          subst hL
          rename_i h1 h2 h3 _ _ _
          refine ⟨by omega, ?_⟩
          show ((D.stream D.head.2.toNat).length : Int) ≤ _
          rw [stream_len D h64]
          omega
theorem InvS.opened (h : InvS D o k) (h64 : ∀ k, (D.now k).length = 64) : InvS D ((openR D).2.map (·.1)) (k + 1) :=
  ⟨h.byt, room_open D h64, by have := h.wait; omega, h.size⟩
theorem InvS.more (h : InvS D o k) : InvS D o (k + 1) := ⟨h.byt, h.room, by have := h.wait; omega, h.size⟩
end
theorem wrap_sum (a b : Nat) (h : (a : Int) + b ≤ 2560) : Value.bool (((a : Int) + b) != IntKind.i64.wrap ((a : Int) + b)) = Value.bool false := by
  have : IntKind.i64.wrap ((a : Int) + b) = (a : Int) + b := by
    simp [IntKind.wrap, IntKind.bits, IntKind.signed]; omega
  rw [this]; simp
theorem LoW.ptr {w : World} {Z : Nat → Prop} {d : Nat} {D : Dsk} {v : Value} {o : Option Lg} (h : LoW w Z d D v o) : (o = none ∧ v = .pointer none) ∨ ∃ L a, o = some L ∧ v = .pointer (some ⟨a, 0, none⟩) := by
  cases o with
  | none => exact .inl ⟨rfl, h.1⟩
  | some L => obtain ⟨l, h, _⟩ := h; exact .inr ⟨L, l, rfl, h⟩
theorem LoR.ptr {w : World} {Y : Nat → Prop} {r : Nat} {D : Dsk} {v : Value} {o : Option Lg} (h : LoR w Y r D v o) : (o = none ∧ v = .pointer none) ∨ ∃ L a, o = some L ∧ v = .pointer (some ⟨a, 0, none⟩) := by
  cases o with
  | none => exact .inl ⟨rfl, h.1⟩
  | some L => obtain ⟨l, h, _⟩ := h; exact .inr ⟨L, l, rfl, h⟩
theorem LoW.opt {w : World} {Z : Nat → Prop} {d : Nat} {D : Dsk} {v : Value} {o : Option Lg} (h : LoW w Z d D v o) : ∃ lp : Option Addr, v = .pointer lp ∧ lp.isNone = o.isNone := by
  rcases h.ptr with ⟨rfl, rfl⟩ | ⟨L, a, rfl, rfl⟩
  · exact ⟨none, rfl, rfl⟩
  · exact ⟨_, rfl, rfl⟩
theorem LoR.opt {w : World} {Y : Nat → Prop} {r : Nat} {D : Dsk} {v : Value} {o : Option Lg} (h : LoR w Y r D v o) : ∃ lp : Option Addr, v = .pointer lp ∧ lp.isNone = o.isNone := by
  rcases h.ptr with ⟨rfl, rfl⟩ | ⟨L, a, rfl, rfl⟩
  · exact ⟨none, rfl, rfl⟩
  · exact ⟨_, rfl, rfl⟩
theorem Rd.cells {w : World} {Y : Nat → Prop} {r : Nat} {D : Dsk} (h : Rd w Y r D) : w.cell? ⟨r, 0, none⟩ = some (.int .i64 D.size) ∧ w.cell? ⟨r, 3, none⟩ = some (.bool D.down) := by
  obtain ⟨kv, wv, h⟩ := h.disk
  exact ⟨cell_of_row w r 0 _ _ _ h.self, cell_of_row w r 3 _ _ _ h.self⟩
theorem Rd.synced {w : World} {Y : Nat → Prop} {r : Nat} {D : Dsk} (h : Rd w Y r D) : Synced D := by
  obtain ⟨kv, wv, h⟩ := h.disk
  exact h.inv.1
theorem LoR.read {w : World} {Y : Nat → Prop} {r : Nat} {D : Dsk} {v : Value} {L : Lg} (h : LoR w Y r D v (some L)) :
    ∃ m ta tn tc wa wn wc, v = .pointer (some ⟨m, 0, none⟩) ∧ w.cell? ⟨m, 2, none⟩ = some (.slice ta tn tc) ∧ w.cell? ⟨m, 3, none⟩ = some (.slice wa wn wc) ∧ w.cell? ⟨m, 4, none⟩ = some (.int .i64 L.wait) ∧ (tn : Int) + wn = L.st.length := by
  obtain ⟨m, rfl, h⟩ := h
  obtain ⟨A, F, h1, ⟨tv, wv, h2⟩, _⟩ := h.parts
  obtain ⟨ta, tc, rfl, _⟩ := h2.there.form
  obtain ⟨wa, wc, rfl, _⟩ := h2.wait.form
  obtain ⟨_, _, c2, c3, c4, _⟩ := h2.cells
  refine ⟨m, ta, _, tc, wa, _, wc, rfl, c2, c3, c4, ?_⟩
  rw [List.length_take, List.length_drop]
  omega
/-- both sides, apart from P and from one another -/
structure St (w0 w1 : World) (P Z Y : Nat → Prop) (w : World) (d r : Nat) (D E : Dsk) (o q : Option Lg) (lv mv : Value) : Prop where
  lo : LoW w Z d D lv o
  ro : LoR w Y r E mv q
  zp : ∀ k, Z k → ¬ P k
  yp : ∀ k, Y k → ¬ P k
  zy : ∀ k, Z k → ¬ Y k
  base : ∀ k, k < w0.heap.size → P k
  pl : ∀ k, P k → k < w1.heap.size
  all : Chg (fun _ => False) w0 w
  kept : Chg (fun k => ¬ P k) w1 w
section
variable {w0 w1 w w' : World} {P Z Y Z' Y' G P' : Nat → Prop} {d r : Nat} {D E D' E' : Dsk} {o q o' q' : Option Lg} {lv mv lv' mv' : Value}
theorem St.left (h : St w0 w1 P Z Y w d r D E o q lv mv) (lo' : LoW w' Z' d D' lv' o') (g : Grow Z w Z' w') : St w0 w1 P Z' Y w' d r D' E o' q lv' mv := by
  have hb : ∀ k, Z k → w0.heap.size ≤ k := fun k hk => by
    rcases Nat.lt_or_ge k w0.heap.size with h1 | h1
    · exact absurd (h.base k h1) (h.zp k hk)
    · exact h1
  refine ⟨lo', h.ro.chg g.chg (fun k hy hz => h.zy k hz hy), fun k hk hp => ?_, h.yp, fun k hk hy => ?_, h.base, h.pl, h.all.trans g.chg (fun k hk => .inr (hb k hk)), h.kept.trans g.chg (fun k hk => .inl (h.zp k hk))⟩
  · rcases g.new k hk with h1 | h1
    · exact h.zp k h1 hp
    · have := h.pl k hp; have := h.kept.size; omega
  · rcases g.new k hk with h1 | h1
    · exact h.zy k h1 hy
    · have := h.ro.rd.lt k hy; omega
theorem St.right (h : St w0 w1 P Z Y w d r D E o q lv mv) (ro' : LoR w' Y' r E' mv' q') (g : Grow Y w Y' w') : St w0 w1 P Z Y' w' d r D E' o q' lv mv' := by
  have hb : ∀ k, Y k → w0.heap.size ≤ k := fun k hk => by
    rcases Nat.lt_or_ge k w0.heap.size with h1 | h1
    · exact absurd (h.base k h1) (h.yp k hk)
    · exact h1
  refine ⟨h.lo.chg g.chg (fun k hz hy => h.zy k hz hy), ro', h.zp, fun k hk hp => ?_, fun k hz hk => ?_, h.base, h.pl, h.all.trans g.chg (fun k hk => .inr (hb k hk)), h.kept.trans g.chg (fun k hk => .inl (h.yp k hk))⟩
  · rcases g.new k hk with h1 | h1
    · exact h.yp k h1 hp
    · have := h.pl k hp; have := h.kept.size; omega
  · rcases g.new k hk with h1 | h1
    · exact h.zy k hz h1
    · have := h.lo.zd.lt k hz; omega
/-- nothing that was there has turned -/
theorem St.quiet (h : St w0 w1 P Z Y w d r D E o q lv mv) (x : Chg (fun _ => False) w w') : St w0 w1 P Z Y w' d r D E o q lv mv :=
  ⟨h.lo.chg x (fun _ _ h => h), h.ro.chg x (fun _ _ h => h), h.zp, h.yp, h.zy, h.base, h.pl, h.all.trans x (fun _ h => h.elim), h.kept.trans x (fun _ h => h.elim)⟩
/-- new blocks are put beside -/
theorem St.fresh (h : St w0 w1 P Z Y w d r D E o q lv mv) (x : Chg (fun _ => False) w w') (hP : ∀ k, P k → P' k) (hN : ∀ k, P' k → P k ∨ (w.heap.size ≤ k ∧ k < w'.heap.size)) : St w0 w' P' Z Y w' d r D E o q lv mv := by
  refine ⟨h.lo.chg x (fun _ _ h => h), h.ro.chg x (fun _ _ h => h), fun k hk hp => ?_, fun k hk hp => ?_, h.zy, fun k hk => hP k (h.base k hk), fun k hk => ?_, h.all.trans x (fun _ h => h.elim), Chg.refl _ _⟩
  · rcases hN k hp with h1 | h1
    · exact h.zp k hk h1
    · have := h.lo.zd.lt k hk; omega
  · rcases hN k hp with h1 | h1
    · exact h.yp k hk h1
    · have := h.ro.rd.lt k hk; omega
  · rcases hN k hk with h1 | h1
    · exact Nat.lt_of_lt_of_le (h.pl k h1) (Nat.le_trans h.kept.size x.size)
    · exact h1.2
/-- something beside has been turned -/
theorem St.other (h : St w0 w1 P Z Y w d r D E o q lv mv) (x : Chg G w w') (hG : ∀ k, G k → w0.heap.size ≤ k ∧ ¬ P' k ∧ ¬ Z k ∧ ¬ Y k) (hP : ∀ k, P' k → P k) (hb : ∀ k, k < w0.heap.size → P' k) : St w0 w1 P' Z Y w' d r D E o q lv mv :=
  ⟨h.lo.chg x (fun k hz hg => (hG k hg).2.2.1 hz), h.ro.chg x (fun k hz hg => (hG k hg).2.2.2 hz), fun k hk hp => h.zp k hk (hP k hp), fun k hk hp => h.yp k hk (hP k hp), h.zy, hb, fun k hk => h.pl k (hP k hk), h.all.trans x (fun k hk => .inr (hG k hk).1), (h.kept.mono (fun k hk => .inl (fun hp => hk (hP k hp)))).trans x (fun k hk => .inl (hG k hk).2.1)⟩
/-- only what was there at the beginning is told of -/
theorem St.down (h : St w0 w1 P Z Y w d r D E o q lv mv) : St w0 w0 (fun k => k < w0.heap.size) Z Y w d r D E o q lv mv :=
  ⟨h.lo, h.ro, fun k hk hp => h.zp k hk (h.base k hp), fun k hk hp => h.yp k hk (h.base k hp), h.zy, fun _ hk => hk, fun _ hk => hk, h.all, h.all.mono (fun _ h => h.elim)⟩
theorem St.zb (h : St w0 w1 P Z Y w d r D E o q lv mv) : ∀ k, Z k → w0.heap.size ≤ k := fun k hk => by
  rcases Nat.lt_or_ge k w0.heap.size with h1 | h1
  · exact absurd (h.base k h1) (h.zp k hk)
  · exact h1
theorem St.yb (h : St w0 w1 P Z Y w d r D E o q lv mv) : ∀ k, Y k → w0.heap.size ≤ k := fun k hk => by
  rcases Nat.lt_or_ge k w0.heap.size with h1 | h1
  · exact absurd (h.base k h1) (h.yp k hk)
  · exact h1
theorem St.heap (h : St w0 w1 P Z Y w d r D E o q lv mv) {k : Nat} {x : Obj} (hk : w1.heap[k]? = some x) (hp : P k) : w.heap[k]? = some x := h.kept.heap hk (fun hn => hn hp)
theorem St.byt (h : St w0 w1 P Z Y w d r D E o q lv mv) {v : Value} {bs : List Int} (hb : BytR w0 (fun x => w0.heap.size ≤ x) v bs) (hQ : ∀ k, G k → w0.heap.size ≤ k) : BytR w G v bs :=
  (hb.chg h.all (fun _ h => h.elim)).weaken (fun k _ hk => hQ k hk)
theorem St.bools (h : St w0 w1 P Z Y w d r D E o q lv mv) {v : Value} {ks : List Bool} (hb : BoolsAt w0 (fun x => w0.heap.size ≤ x) v ks) (hQ : ∀ k, G k → w0.heap.size ≤ k) : BoolsAt w G v ks := by
  obtain ⟨ao, cp, e, hl, h2⟩ := hb.chg h.all (fun _ h => h.elim)
  refine ⟨ao, cp, e, hl, fun hp => ?_⟩
  obtain ⟨b, o, e2, hnb, hc⟩ := h2 hp
  exact ⟨b, o, e2, fun hz => hnb (hQ b hz), hc⟩
theorem St.ok (h : St w0 w1 P Z Y w d r D E o q lv mv) : D.ok := h.lo.zd.disk.ok
theorem St.bytes (h : St w0 w1 P Z Y w d r D E o q lv mv) : ∀ L, o = some L → Bytes L.st := by
  intro L hL
  subst hL
  obtain ⟨l, _, h⟩ := h.lo
  exact h.ok.2.by_
/-- nothing is known of the logs any more -/
theorem St.bareL (h : St w0 w1 P Z Y w d r D E o q lv mv) : St w0 w1 P Z Y w d r D E none q (.pointer none) mv :=
  ⟨⟨rfl, h.lo.zd⟩, h.ro, h.zp, h.yp, h.zy, h.base, h.pl, h.all, h.kept⟩
end
theorem st_start {w w1 w2 w3 : World} {Z Y : Nat → Prop} {d r : Nat} {D E : Dsk} (zd : Zd w2 Z d D) (g2 : Grow (fun _ => False) w1 Z w2) (rd : Rd w3 Y r E) (g3 : Grow (fun _ => False) w2 Y w3) (x : Chg (fun _ => False) w w1) :
    St w w (fun k => k < w.heap.size) Z Y w3 d r D E none none (.pointer none) (.pointer none) := by
  have a1 := x.size
  have a2 := g2.chg.size
  have a3 := g3.chg.size
  have c : Chg (fun _ => False) w w3 := (x.trans g2.chg (fun _ h => h.elim)).trans g3.chg (fun _ h => h.elim)
  refine ⟨⟨rfl, zd.chg g3.chg (fun _ _ h => h)⟩, ⟨rfl, rd⟩, fun k hk hp => ?_, fun k hk hp => ?_, fun k hk hy => ?_, fun _ hk => hk, fun _ hk => hk, c, c.mono (fun _ h => h.elim)⟩
  · rcases g2.new k hk with h | h
    · exact h
    · omega
  · rcases g3.new k hk with h | h
    · exact h
    · omega
  · have := zd.lt k hk
    rcases g3.new k hy with h | h
    · exact h
    · omega
theorem bools_less {w : World} {F G : Nat → Prop} {v : Value} {ks : List Bool} (h : BoolsAt w F v ks) (hG : ∀ k, G k → F k) : BoolsAt w G v ks := by
  obtain ⟨ao, c, rfl, hb, h⟩ := h
  refine ⟨ao, c, rfl, hb, fun hk => ?_⟩
  obtain ⟨b, o, rfl, hf, hc⟩ := h hk
  exact ⟨b, o, rfl, fun hg => hf (hG b hg), hc⟩
theorem St.here {w0 w1 w : World} {P Z Y : Nat → Prop} {d r : Nat} {D E : Dsk} {o q : Option Lg} {lv mv : Value} (h : St w0 w1 P Z Y w d r D E o q lv mv) : St w0 w P Z Y w d r D E o q lv mv :=
  h.fresh (Chg.refl _ _) (fun _ h => h) (fun _ h => .inl h)
theorem InvS.start (z : Int) (hz : z ≤ 40) : InvS (Dsk.new z) none 0 :=
  ⟨byt_new z, fun L hL => by (cases hL), by rw [show (Dsk.new z).wait = [] from rfl]; simp, by unfold Dsk.new szOf; simp only; split <;> (try split) <;> omega⟩
theorem InvS.openedK {D : Dsk} {o : Option Lg} {k : Nat} (h : InvS D o k) (h64 : ∀ k, (D.now k).length = 64) : InvS D ((openR D).2.map (·.1)) k :=
  ⟨h.byt, room_open D h64, h.wait, h.size⟩
theorem InvS.restart {D : Dsk} {o : Option Lg} {k : Nat} (h : InvS D o k) (hs : Synced D) (ks : List Bool) (m : Nat) : InvS (D.restart ks) none m :=
  ⟨byt_restart h.byt hs ks, fun L hL => by (cases hL), by rw [(restart_wait D ks).1]; simp, h.size⟩
end Go.Proofs.Ytihpobpkhhkejaa
