/-
  The log's and the disk's calls, for a caller of one disk and one log. Conditions: as each lemma says.
-/
import Derived.Test.YtihpobpkhhkejaaWUp
import Derived.Laws.BytesArg
set_option autoImplicit false
namespace Go.Proofs.Ytihpobpkhhkejaa
open Go Go.RowKit

/-- both have been worked on -/
theorem zn_mk {w w' : World} {Z A F : Nat → Prop} {d l : Nat} {D' : Dsk} {L' : Lg} (hlt : ∀ k, Z k → k < w.heap.size) (h3 : ∀ k, A k → Z k) (h4 : ∀ k, F k → Z k) (h5 : ∀ k, A k → ¬ F k) (k1 : DiskAt w' d (Ext A w w') D') (k2 : LogAt w' l d F L') (k3 : Chg (fun k => A k ∨ F k) w w') :
    Zn w' (Ext Z w w') d l D' L' ∧ Grow Z w (Ext Z w w') w' := by
  have c : Chg Z w w' := k3.mono (fun k hk => .inl (hk.elim (h3 k) (h4 k)))
  refine ⟨⟨⟨Ext A w w', F, k1, k2, fun k hk => hk.imp (h3 k) id, fun k hk => .inl (h4 k hk), fun k hk hf => ?_⟩, fun k hk => ?_⟩, c, fun k hk => hk.imp id And.left⟩
  · rcases hk with h6 | h6
    · exact h5 k h6 hf
    · have := hlt k (h4 k hf); omega
  · rcases hk with h6 | h6
    · exact Nat.lt_of_lt_of_le (hlt k h6) c.size
    · exact h6.2
section
variable {w : World} {Z : Nat → Prop} {d l : Nat} {D : Dsk} {L : Lg}
theorem zn_append (h : Zn w Z d l D L) (v : Value) (rec : List Int) (hr : BytR w Z v rec) :
    Calls Try.prog 32 #[.pointer (some ⟨l, 0, none⟩), v] w fun e w' => ∃ Z', e = .returned (.int .i64 (appR D L rec).1) ∧ Zn w' Z' d l D (appR D L rec).2 ∧ Grow Z w Z' w' := by
  obtain ⟨ao, n, c, rfl⟩ : ∃ ao n c, v = .slice ao n c := by obtain ⟨_, _, ao, c, e, _⟩ := hr; exact ⟨ao, _, c, e⟩
  obtain ⟨A, F, h1, h2, h3, h4, h5⟩ := h.parts
  have hn := hr.get.1
  by_cases hf : (L.st.length : Int) + 4 + rec.length > (D.size - 2) * 64
  · refine (append_full l d A F D L w ao n c h1 h2 (by rw [hn]; exact hr.2.1) (by rw [hn]; exact hf)).mono ?_
    rintro e w' ⟨rfl, x⟩
    rw [appR_full D L hf]
    exact ⟨Z, rfl, h.quiet x, x.mono (fun _ h => h.elim), fun k hk => .inl hk⟩
  · refine (append_ok l d A F D L w ao n c rec h1 h2 (hr.weaken (fun k _ hk => h4 k hk)) (by omega)).mono ?_
    rintro e w' ⟨rfl, hl, x⟩
    have e2 : appR D L rec = (0, { L with st := L.st ++ leN rec.length 4 ++ rec, wait := L.wait + 1 }) := by unfold appR; rw [if_neg (by omega)]
    rw [e2]
    have c : Chg Z w w' := x.mono (fun k hk => .inl (h4 k hk))
    refine ⟨Ext Z w w', rfl, ⟨⟨A, Ext F w w', h1.chg x (fun k hk hf => h5 k hk hf), hl, fun k hk => .inl (h3 k hk), fun k hk => hk.imp (h4 k) id, fun k hk hf => ?_⟩, fun k hk => ?_⟩, c, fun k hk => hk.imp id And.left⟩
    · rcases hf with h6 | h6
      · exact h5 k hk h6
      · have := h.lt k (h3 k hk); omega
    · rcases hk with h6 | h6
      · exact Nat.lt_of_lt_of_le (h.lt k h6) c.size
      · exact h6.2
theorem zn_flush (h : Zn w Z d l D L) (hsz : 3 ≤ D.size) (hroom : (L.st.length : Int) ≤ (D.size - 2) * 64) (hlen : D.wait.length < 2800000000000) :
    Calls Try.prog 35 #[.pointer (some ⟨l, 0, none⟩)] w fun e w' => ∃ Z', e = .returned (.int .i64 (flushR D L).1) ∧ Zn w' Z' d l (flushR D L).2.1 (flushR D L).2.2 ∧ Grow Z w Z' w' := by
  obtain ⟨A, F, h1, h2, h3, h4, h5⟩ := h.parts
  refine (flush_any l d A F D L w h1 h2 h5 hsz hroom hlen).mono ?_
  rintro e w' ⟨rfl, d1, l1, x1⟩
  exact ⟨_, rfl, zn_mk h.lt h3 h4 h5 d1 l1 x1⟩
theorem zn_reset (h : Zn w Z d l D L) (hsz : 3 ≤ D.size) (hlen : D.wait.length < 2800000000000) :
    Calls Try.prog 36 #[.pointer (some ⟨l, 0, none⟩)] w fun e w' => ∃ Z', e = .returned (.int .i64 (sealR D L 0).1) ∧ Zn w' Z' d l (sealR D L 0).2.1 (sealR D L 0).2.2 ∧ Grow Z w Z' w' := by
  obtain ⟨A, F, h1, h2, h3, h4, h5⟩ := h.parts
  refine (reset_any l d A F D L w h1 h2 h5 hsz (by omega)).mono ?_
  rintro e w' ⟨rfl, d1, l1, x1⟩
  exact ⟨_, rfl, zn_mk h.lt h3 h4 h5 d1 l1 x1⟩
theorem zn_used (h : Zn w Z d l D L) : Calls Try.prog 33 #[.pointer (some ⟨l, 0, none⟩)] w fun e w' => e = .returned (.int .i64 L.st.length) ∧ w = w' := by
  obtain ⟨A, F, h1, h2, _⟩ := h.parts
  exact used_any l d F L w h2
theorem zn_waiting (h : Zn w Z d l D L) : Calls Try.prog 34 #[.pointer (some ⟨l, 0, none⟩)] w fun e w' => e = .returned (.int .i64 L.wait) ∧ w = w' := by
  obtain ⟨A, F, h1, h2, _⟩ := h.parts
  exact waitingL_any l d F L w h2
theorem zn_arm (h : Zn w Z d l D L) (n : Int) (hn : n ≤ 9223372036854775807) :
    Calls Try.prog 21 #[.pointer (some ⟨d, 0, none⟩), .int .i64 n] w fun e w' => ∃ Z', e = .returned (.tuple #[]) ∧ Zn w' Z' d l (D.arm n) L ∧ Grow Z w Z' w' := by
  obtain ⟨A, F, h1, h2, h3, h4, h5⟩ := h.parts
  refine (arm_any d A D w n hn h1).mono ?_
  rintro e w' ⟨rfl, d1, x1⟩
  exact ⟨_, rfl, zn_mk h.lt h3 h4 h5 (d1.mono (fun k hk _ => .inl hk)) (h2.chg x1 (fun k hk ha => h5 k ha hk)) (x1.mono (fun k hk => .inl (.inl hk)))⟩
theorem zd_arm (h : Zd w Z d D) (n : Int) (hn : n ≤ 9223372036854775807) :
    Calls Try.prog 21 #[.pointer (some ⟨d, 0, none⟩), .int .i64 n] w fun e w' => ∃ Z', e = .returned (.tuple #[]) ∧ Zd w' Z' d (D.arm n) ∧ Grow Z w Z' w' := by
  refine (arm_any d Z D w n hn h.disk).mono ?_
  rintro e w' ⟨rfl, d1, x1⟩
  exact ⟨_, rfl, h.step (d1.mono (fun k hk _ => .inl hk)) x1⟩
theorem zd_down (h : Zd w Z d D) : Calls Try.prog 22 #[.pointer (some ⟨d, 0, none⟩)] w fun e w' => e = .returned (.bool D.down) ∧ w = w' := down_any d Z D w h.disk
theorem zd_restart (h : Zd w Z d D) (v : Value) (ks : List Bool) (hv : BoolsAt w Z v ks) (hl : D.wait.length < 3000000000000) :
    Calls Try.prog 19 #[.pointer (some ⟨d, 0, none⟩), v] w fun e w' => ∃ Z', e = .returned (.tuple #[]) ∧ Zd w' Z' d (D.restart ks) ∧ Grow Z w Z' w' := by
  refine (restart_any d Z D w v ks h.disk hv hl).mono ?_
  rintro e w' ⟨rfl, d1, x1⟩
  exact ⟨_, rfl, h.step d1 x1⟩
theorem zd_new (n : Int) (w : World) : Calls Try.prog 15 #[.int .i64 n] w fun e w' => ∃ r Z, e = .returned (.pointer (some ⟨r, 0, none⟩)) ∧ Zd w' Z r (Dsk.new n) ∧ Grow (fun _ => False) w Z w' :=
  (new_any n w).mono fun _ _ ⟨r, he, h, c⟩ => ⟨r, _, he, ⟨h.mono (fun _ hk _ => hk), fun k hk => by
    rcases hk with h | h
    · exact h.elim
    · exact h.2⟩, c, fun _ hk => hk.imp id And.left⟩
/-- what Open comes to in a zone -/
theorem zd_open_cap (h : Zd w Z d D) (hby : ∀ k, Bytes (D.now k)) {rs : List (List Int)} (ho : openR D = (0, some (L, rs))) :
    Calls Try.prog 31 #[.pointer (some ⟨d, 0, none⟩)] w fun e w' => ∃ l v Z', e = .returned (.tuple #[.pointer (some ⟨l, 0, none⟩), v, .int .i64 0]) ∧ Zn w' Z' d l D L ∧ RecsR w' Z' v rs ∧ Grow Z w Z' w' ∧ Chg (fun _ => False) w w' ∧ CapOk v := by
  refine (open_any d Z D w h.disk hby).mono ?_
  rintro e w' ⟨hp, x⟩
  rw [ho] at hp
  obtain ⟨l, v, F, he, hl, hF, hr, hcp⟩ := hp
  refine ⟨l, v, fun k => Z k ∨ F k, he, ⟨⟨Z, F, h.disk.chg x (fun _ _ h => h), hl, fun k hk => .inl hk, fun k hk => .inr hk, fun k hk hf => ?_⟩, fun k hk => ?_⟩, hr.weaken (fun k hl hk => hk.imp (fun hz => h.lt k hz) id), ⟨x.mono (fun _ h => h.elim), fun k hk => hk.imp id (fun hf => (hF k hf).1)⟩, x, hcp⟩
  · have := h.lt k hk; have := (hF k hf).1; omega
  · rcases hk with h1 | h1
    · exact Nat.lt_of_lt_of_le (h.lt k h1) x.size
    · exact (hF k h1).2
theorem zd_open_ok (h : Zd w Z d D) (hby : ∀ k, Bytes (D.now k)) {rs : List (List Int)} (ho : openR D = (0, some (L, rs))) :
    Calls Try.prog 31 #[.pointer (some ⟨d, 0, none⟩)] w fun e w' => ∃ l v Z', e = .returned (.tuple #[.pointer (some ⟨l, 0, none⟩), v, .int .i64 0]) ∧ Zn w' Z' d l D L ∧ RecsR w' Z' v rs ∧ Grow Z w Z' w' ∧ Chg (fun _ => False) w w' :=
  (zd_open_cap h hby ho).mono fun _ _ ⟨l, v, Z', h1, h2, h3, h4, h5, _⟩ => ⟨l, v, Z', h1, h2, h3, h4, h5⟩
theorem zd_open_no (h : Zd w Z d D) (hby : ∀ k, Bytes (D.now k)) {c : Int} (ho : openR D = (c, none)) :
    Calls Try.prog 31 #[.pointer (some ⟨d, 0, none⟩)] w fun e w' => e = .returned (.tuple #[.pointer none, .slice none 0 0, .int .i64 c]) ∧ Zd w' Z d D ∧ Grow Z w Z w' ∧ Chg (fun _ => False) w w' := by
  refine (open_any d Z D w h.disk hby).mono ?_
  rintro e w' ⟨hp, x⟩
  rw [ho] at hp
  exact ⟨hp, h.quiet x, ⟨x.mono (fun _ h => h.elim), fun k hk => .inl hk⟩, x⟩
theorem zd_read (h : Zd w Z d D) (n : Int) :
    Calls Try.prog 20 #[.pointer (some ⟨d, 0, none⟩), .int .i64 n] w fun e w' => e = .returned (.tuple #[secV (D.readR n), .int .i64 (errOf D.size D.down n)]) ∧ Zd w' Z d D ∧ Grow Z w Z w' ∧ Chg (fun _ => False) w w' :=
  (read_any d Z D n w h.disk).mono fun _ _ ⟨he, x⟩ => ⟨he, h.quiet x, ⟨x.mono (fun _ h => h.elim), fun _ hk => .inl hk⟩, x⟩
end

/-! bytes as a text -/
theorem BytR.conv {w : World} {Z : Nat → Prop} {v : Value} {xs : List Int} (h : BytR w Z v xs) (dst : TypeId) (hd : Try.prog.underlying dst = some .string) : (convert 22 dst v).run Try.prog w = .ok (.string (strOfNums xs)) w := by
  obtain ⟨h1, h2, ao, c, rfl, h3⟩ := h
  by_cases h0 : 0 < xs.length
  · obtain ⟨b, o, rfl, _, hc⟩ := h3 h0
    exact run_convert_bytes_arg w 22 5 Try.underlying22 Try.underlying5 b o xs.length c xs rfl (fun i hi => by rw [hc i hi]; simp [hi]) dst hd
  · obtain rfl : xs = [] := List.eq_nil_of_length_eq_zero (by omega)
    cases ao with
    | none => exact run_convert_bytes_nil w 22 5 Try.underlying22 Try.underlying5 _ _ dst hd
    | some a =>
      have hl : (loadCells a 0).run Try.prog w = .ok (([] : List Int).map (Value.int .u8)).toArray w := by simpa using run_loadCells_list (P := Try.prog) w a [] (by simp)
      rw [run_convert_bytes_string w 22 dst 5 _ _ _ Try.underlying22 Try.underlying5 hd]
      exact run_bytesToString w a 0 c [] hl
theorem strOfNums_inj {a b : List Int} (ha : Bytes a) (hb : Bytes b) : (strOfNums a == strOfNums b) = decide (a = b) := by
  have key : strOfNums a = strOfNums b → a = b := fun h => by
    have h2 := congrArg (fun s : ByteArray => s.data.toList) h
    simp only [strOfNums_data] at h2
    have hl : a.length = b.length := by simpa using congrArg List.length h2
    refine List.ext_getElem hl (fun i h1 h3 => ?_)
    have h4 := congrArg (fun l : List UInt8 => l[i]?) h2
    simp only [List.getElem?_map, List.getElem?_eq_getElem h1, List.getElem?_eq_getElem h3, Option.map_some, Option.some.injEq] at h4
    have h5 := ha _ (List.getElem_mem h1)
    have h6 := hb _ (List.getElem_mem h3)
    have h7 := congrArg UInt8.toNat h4
    simp only [UInt8.toNat_ofNat'] at h7
    omega
  by_cases h : a = b
  · rw [h]; simp [bytesBeq]
  · rw [decide_eq_false h]
    have : ¬ (strOfNums a == strOfNums b) = true := fun e => h (key ((bytesBeq _ _).1 e))
    simpa using this
end Go.Proofs.Ytihpobpkhhkejaa
