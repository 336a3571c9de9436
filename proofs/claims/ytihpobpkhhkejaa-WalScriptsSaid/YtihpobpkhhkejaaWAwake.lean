/-
  The answers of the log that the document fixes are as they should be. No condition.
-/
import Derived.Test.YtihpobpkhhkejaaWSame
import Derived.Lib.SlBytesConst
import Derived.Laws.MakeOwn
set_option autoImplicit false
namespace Go.Proofs.Ytihpobpkhhkejaa
open Go Go.RowKit

theorem BytR.lit (w : World) (Z : Nat → Prop) (hlt : ∀ k, Z k → k < w.heap.size) (xs : List Int) (hb : Bytes xs) (hl : xs.length ≤ maxLen) (c : Nat) (fz : Nat × Nat) : BytR (w.alloc (.cells (xs.map (Value.int .u8)).toArray 5 fz)) Z (.slice (some ⟨w.heap.size, 0, none⟩) xs.length c) xs :=
  ⟨hb, hl, _, _, rfl, fun _ => ⟨w.heap.size, 0, rfl, ⟨by simp, fun h => by have := hlt _ h; omega⟩, fun j hj => by
    rw [cell_of_row _ _ _ _ _ _ (hal_new (w := w) (o := .cells (xs.map (Value.int .u8)).toArray 5 fz))]
    simp [hj]⟩⟩
theorem Zn.alloc {w : World} {Z : Nat → Prop} {d l : Nat} {D : Dsk} {L : Lg} (h : Zn w Z d l D L) (o : Obj) : Zn (w.alloc o) Z d l D L := h.quiet ((Chg.refl _ _).alloc o)
theorem Zd.alloc {w : World} {Z : Nat → Prop} {d : Nat} {D : Dsk} (h : Zd w Z d D) (o : Obj) : Zd (w.alloc o) Z d D := h.quiet ((Chg.refl _ _).alloc o)
theorem LogUp.used {D : Dsk} {L : Lg} {rs : List (List Int)} {fl n : Nat} (h : LogUp D L rs fl n) : L.st.length = (flatF rs).length := by rw [h.st]
theorem Zn.h64 {w : World} {Z : Nat → Prop} {d l : Nat} {D : Dsk} {L : Lg} (h : Zn w Z d l D L) : ∀ k, (D.now k).length = 64 := h.ok.1.2.2.2.2.1
theorem Zd.h64 {w : World} {Z : Nat → Prop} {d : Nat} {D : Dsk} (h : Zd w Z d D) : ∀ k, (D.now k).length = 64 := h.disk.ok.2.2.2.2.1
theorem new_size (k : Int) (h3 : 3 ≤ k) (h4 : k ≤ 65536) : (Dsk.new k).size = k := by show szOf k = k; unfold szOf; rw [if_neg (by omega), if_neg (by omega)]
theorem ab_bytes : Bytes [97, 98] := by intro b hb; simp at hb; omega
theorem u8_zero : (Try.prog.info? 5).map (fun i => (i.zero, i.size, i.bytes)) = some (some (.int .u8 0), 1, 1) := by kernel_rfl
def zrs (n : Nat) : List Int := List.replicate n 0
theorem zrs_len (n : Nat) : (zrs n).length = n := by simp [zrs]
theorem zrs_bytes (n : Nat) : Bytes (zrs n) := fun b hb => by have := List.eq_of_mem_replicate hb; omega
/-- so many noughts -/
theorem run_makeB (w : World) (n : Nat) (hn : n ≤ 4194304) : (Instr.makeSlice 22 (.int .i64 n) (.int .i64 n)).run Try.prog w = .ok (.slice (some ⟨w.heap.size, 0, none⟩) n n) (w.alloc (.cells ((zrs n).map (Value.int .u8)).toArray 5)) := by
  obtain ⟨i, hi, hzz⟩ := Option.map_eq_some_iff.1 u8_zero
  simp only [Prod.mk.injEq] at hzz
  have := run_make (P := Try.prog) w 22 5 i _ Try.underlying22 hi hzz.1 .i64 .i64 n n (by omega) (Int.le_refl _) (by rw [hzz.2.2]; omega) (by omega)
  have e : madeCells (Value.int .u8 0).cells (n * 1) = ((zrs n).map (Value.int .u8)).toArray := by
    apply Array.ext'
    unfold madeCells zrs
    simp [Value.cells]
    rw [List.eq_replicate_iff]
    refine ⟨by simp, fun b hb => ?_⟩
    obtain ⟨x, _, rfl⟩ := List.mem_map.1 hb
    simp [Nat.mod_one]
  rw [this, Int.toNat_natCast, hzz.2.1, e]
/-- one literal row of bytes in a literal list -/
theorem RecsR.lit1 {w : World} {Z : Nat → Prop} {u : Value} {xs : List Int} (h : BytR w Z u xs) (hlt : ∀ k, Z k → k < w.heap.size) : RecsR (w.alloc (.cells #[u] 22)) Z (.slice (some ⟨w.heap.size, 0, none⟩) 1 1) [xs] := by
  refine ⟨by simp [maxLen], _, _, rfl, fun _ => ⟨w.heap.size, 0, rfl, ⟨by simp, fun h => by have := hlt _ h; omega⟩, fun j hj => ?_⟩⟩
  have : j = 0 := by simpa using hj
  subst this
  refine ⟨u, ?_, h.chg ((Chg.refl (fun _ => False) w).alloc _) (fun _ h => h.elim)⟩
  rw [cell_of_row _ _ _ _ _ _ (hal_new (w := w) (o := .cells #[u] 22))]
  rfl
set_option maxRecDepth 100000 in
set_option maxHeartbeats 1000000 in
theorem awake4 (w : World) : Calls Try.prog 30 #[] w fun e w' => e = .returned (.bool true) ∧ Chg (fun _ => False) w w' := by
  obtain ⟨L0, hop0, up0⟩ := up_new 4 (by decide) (by decide)
  have hs0 : (Dsk.new 4).size = 4 := new_size 4 (by decide) (by decide)
  have hst0 : L0.st = [] := up0.st
  obtain ⟨L1, ha1, up1, hl1, _⟩ := up0.append (r := [97, 98]) (by rw [hst0, hs0]; decide) ab_bytes
  have hst1 : L1.st.length = 6 := by rw [hst0] at hl1; simp at hl1; omega
  obtain ⟨f1, f2, f3, f4, f5, f6⟩ := up1.flushC (new_calm 4) (by decide)
  have hby1 : (flushR (Dsk.new 4) L1).2.1.byt := byt_flush (byt_new 4) (by rw [up1.st]; exact flatF_bytes up1.ok)
  have HOP0 := Lib.hid hop0; have UP0 := Lib.hid up0; have HA1 := Lib.hid ha1; have UP1 := Lib.hid up1; have HST1 := Lib.hid hst1; have F1 := Lib.hid f1; have HS0 := Lib.hid hs0
  have HBY1 := Lib.hid hby1; have UP2 := Lib.hid f3; have F4 := Lib.hid f4; have F6 := Lib.hid f6
  clear hop0 up0 ha1 up1 hst1 f1 f2 f3 f4 f5 f6 hs0 hst0 hl1 hby1
  have kc := fun (w : World) (C : Array Value) (n c : Nat) => Lib.run_convert_bytes_const (P := Try.prog) w 22 5 C n c Try.underlying22 Try.underlying5
  go_enter Try.func30, Try.ntmps30
  go_wp2_with fail
  refine (zd_new 4 w).mono ?_
  rintro e w1 ⟨r, Z1, rfl, d1, g1⟩
  have D1 := Lib.hid d1; have G1 := Lib.hid g1
  clear d1 g1
  go_wp2_with fail
  refine (zd_open_ok D1.out (byt_new 4).now HOP0.out).mono ?_
  rintro e w2 ⟨l, v2, Z2, rfl, n2, _, g2, _⟩
  have N2 := Lib.hid n2; have G2 := Lib.hid (G1.out.trans g2)
  clear n2 g2
  go_wp2_with fail
  refine (zn_append (N2.out.alloc _) _ [97, 98] (BytR.lit w2 Z2 N2.out.lt [97, 98] ab_bytes (by decide) 2 (2, 3))).mono ?_
  rintro e w3 ⟨Z3, rfl, n3, g3⟩
  rw [HA1.out] at n3
  rw [HA1.out]
  have N3 := Lib.hid n3; have G3 := Lib.hid ((G2.out.alloc _).trans g3)
  clear n3 g3
  go_wp2_with fail
  refine (zn_used N3.out).mono ?_
  rintro e w4 ⟨rfl, rfl⟩
  rw [HST1.out]
  go_wp2_with fail
  refine (zn_flush N3.out (by rw [HS0.out]; decide) UP1.out.room (by decide)).mono ?_
  rintro e w4 ⟨Z4, rfl, n4, g4⟩
  rw [F1.out]
  have N4 := Lib.hid n4; have G4 := Lib.hid (G3.out.trans g4)
  clear n4 g4
  obtain ⟨L5, hop5, up5⟩ := UP2.out.opens N4.out.h64
  have HOP5 := Lib.hid hop5
  clear hop5 up5
  go_wp2_with fail
  refine (zd_open_ok N4.out.zd HBY1.out.now HOP5.out).mono ?_
  rintro e w5 ⟨l5, v5, Z5, rfl, n5, r5, g5, x5⟩
  have R5 := Lib.hid (show RecsR w5 Z5 v5 [[97, 98]] from r5); have X5 := Lib.hid x5; have N5 := Lib.hid (N4.out.quiet x5)
  have G5 := Lib.hid (G4.out.quiet x5)
  clear n5 r5 g5 x5
  obtain ⟨W6, hW6⟩ : ∃ W6, W6 = w5.alloc (.cells (([97, 98] : List Int).map (Value.int .u8)).toArray 5 (2, 3)) := ⟨_, rfl⟩
  have b6 : BytR W6 (fun _ => False) (.slice (some ⟨w5.heap.size, 0, none⟩) 2 2) [97, 98] := by rw [hW6]; exact BytR.lit w5 _ (fun _ h => h.elim) [97, 98] ab_bytes (by decide) 2 (2, 3)
  have z6 : W6.heap.size = w5.heap.size + 1 := by rw [hW6]; simp
  have r6 := RecsR.lit1 b6 (fun _ h => h.elim)
  rw [z6] at r6
  have q6 : Chg (fun _ => False) w5 (W6.alloc (.cells #[.slice (some ⟨w5.heap.size, 0, none⟩) 2 2] 22)) := by rw [hW6]; exact ((Chg.refl _ _).alloc _).alloc _
  have R6 := Lib.hid r6; have Q6 := Lib.hid q6
  have HW6 := Lib.hid hW6
  clear b6 z6 r6 q6 hW6
  go_wp2_with fail
  refine (same_any v5 _ _ _ _ _ _ (R5.out.grow ⟨(by
    have := Q6.out
    rw [HW6.out] at this
    exact this.mono (fun _ h => h.elim)), fun k hk => .inl hk⟩) (by
    have := R6.out
    rw [HW6.out] at this
    exact this)).mono ?_
  rintro e w7 ⟨rfl, x7⟩
  have hx7 : Chg (fun _ => False) w5 w7 := by
    have := Q6.out
    rw [HW6.out] at this
    exact this.trans x7 (fun _ h => .inl h)
  have N7 := Lib.hid (N5.out.quiet hx7); have G7 := Lib.hid (G5.out.quiet hx7)
  clear x7 hx7 HW6 R6 Q6
  rw [decide_eq_true (rfl : ([[97, 98]] : List (List Int)) = [[97, 98]])]
  have HF := Lib.hid (show appR (flushR (Dsk.new 4) L1).2.1 (flushR (Dsk.new 4) L1).2.2 (zrs 119) = (21, (flushR (Dsk.new 4) L1).2.2) from appR_full _ _ (by rw [F4.out, HST1.out, F6.out, HS0.out, zrs_len]; decide))
  have hmk : ∀ w, (Instr.makeSlice 22 (.int .i64 119) (.int .i64 119)).run Try.prog w = .ok (.slice (some ⟨w.heap.size, 0, none⟩) 119 119) (w.alloc (.cells ((zrs 119).map (Value.int .u8)).toArray 5)) := fun w => run_makeB w 119 (by decide)
  have HMK := Lib.hid hmk
  have HMB := Lib.hid (BytR.lit w7 Z4 N7.out.lt (zrs 119) (zrs_bytes 119) (by rw [zrs_len]; decide) 119 (0, 0))
  go_wp2_with fail
  refine (zn_append (N7.out.alloc _) _ (zrs 119) (by have := HMB.out; rw [zrs_len] at this; exact this)).mono ?_
  rintro e w8 ⟨Z8, rfl, n8, g8⟩
  rw [HF.out]
  have G8 := Lib.hid ((G7.out.alloc _).trans g8)
  clear n8 g8
  go_wp2
  go_ret
  exact ⟨rfl, G8.out.chg⟩
end Go.Proofs.Ytihpobpkhhkejaa
