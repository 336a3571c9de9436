/-
  The disk's calls for a caller of one disk; the answers of the beginning are true. Conditions: as each lemma says.
-/
import Derived.Test.YtihpobpkhhkejaaDiskC
set_option autoImplicit false
namespace Go.Proofs.Ytihpobpkhhkejaa
open Go Go.RowKit

/-! sectors that begin with a byte or two -/
def z63 : Sec := List.replicate 63 0
def z62 : Sec := List.replicate 62 0
def secB (b : Int) : Sec := b :: z63
def secBB (b c : Int) : Sec := b :: c :: z62
theorem secB_len (b : Int) : (secB b).length = 64 := by simp [secB, z63]
theorem secBB_len (b c : Int) : (secBB b c).length = 64 := by simp [secBB, z62]
theorem secC_sec0 : secC sec0 = .int .u8 0 :: secC z63 := rfl
theorem secC_z63 : secC z63 = .int .u8 0 :: secC z62 := rfl
theorem size_one {c : Array Value} (h : c.size = 1) : ∃ a, c = #[a] := Array.size_eq_one_iff.1 h
theorem splice_toList (cells c : Array Value) (off : Nat) : (splice cells off c).toList = cells.toList.take off ++ c.toList ++ cells.toList.drop (off + c.size) := by
  unfold splice
  simp only [Array.toList_append, Array.toList_extract, List.extract_eq_take_drop, Nat.sub_zero, List.drop_zero]
  rw [List.take_of_length_le (l := cells.toList.drop (off + c.size)) (by simp)]
theorem fill_one {cells c : Array Value} {v : Value} (hv : v.cells = c) (h : c.size = 1) (hs : 1 ≤ cells.size) : Instr.fill (fun i => some (i * 1, 1)) cells [(0, v)] = some (splice cells 0 c) := by
  subst hv
  rw [fill_cons (off := 0) (size := 1) rfl h (by omega)]
  rfl
theorem fill_two {cells c d : Array Value} {v u : Value} (hv : v.cells = c) (hu : u.cells = d) (h : c.size = 1) (h2 : d.size = 1) (hs : 2 ≤ cells.size) : Instr.fill (fun i => some (i * 1, 1)) cells [(0, v), (1, u)] = some (splice (splice cells 0 c) 1 d) := by
  subst hv; subst hu
  rw [fill_cons (off := 0) (size := 1) rfl h (by omega), fill_cons (off := 1) (size := 1) rfl h2 (by simp [splice, h]; omega)]
  rfl
theorem splice_one (a z : Value) (r : List Value) : splice (z :: r).toArray 0 #[a] = #[a] ++ r.toArray := by
  apply Array.ext'; rw [splice_toList]; simp
theorem splice_two (a b y z : Value) (r : List Value) : splice (splice (z :: y :: r).toArray 0 #[a]) 1 #[b] = #[a] ++ #[b] ++ r.toArray := by
  apply Array.ext'; rw [splice_toList, splice_toList]; simp
theorem built_secs (parts : List (Nat × Value)) : Try.prog.built 31 parts = Instr.fill (fun i => some (i * 1, 1)) (secC sec0).toArray parts := by kernel_rfl
theorem exec_build_sec1 (e : Operand → Value) (dst : Option Tmp) (x : Operand) (ty : TypeId) (pos : String) (after : Array Edge) (g : Option (Nat × Bool)) (w : World) (h : (e x).cells.size = 1) :
    (execOp e ⟨dst, .build 31 #[(0, x)], ty, pos, after, g⟩).run Try.prog w = .ok (.value (.agg ((e x).cells ++ (secC z63).toArray))) w := by
  have hb : Try.prog.built 31 [(0, e x)] = some ((e x).cells ++ (secC z63).toArray) := by
    obtain ⟨a, ha⟩ := size_one h
    rw [built_secs, fill_one ha rfl (by simp [sec0]), secC_sec0, splice_one, ha]
  have := run_build (P := Try.prog) w 31 #[(0, e x)] _ hb
  simp [execOp, this]
theorem exec_build_sec2 (e : Operand → Value) (dst : Option Tmp) (x y : Operand) (ty : TypeId) (pos : String) (after : Array Edge) (g : Option (Nat × Bool)) (w : World) (h : (e x).cells.size = 1) (h2 : (e y).cells.size = 1) :
    (execOp e ⟨dst, .build 31 #[(0, x), (1, y)], ty, pos, after, g⟩).run Try.prog w = .ok (.value (.agg ((e x).cells ++ (e y).cells ++ (secC z62).toArray))) w := by
  have hb : Try.prog.built 31 [(0, e x), (1, e y)] = some ((e x).cells ++ (e y).cells ++ (secC z62).toArray) := by
    obtain ⟨a, ha⟩ := size_one h
    obtain ⟨b, hb⟩ := size_one h2
    rw [built_secs, fill_two ha hb rfl rfl (by simp [sec0]), secC_sec0, secC_z63, splice_two, ha, hb]
  have := run_build (P := Try.prog) w 31 #[(0, e x), (1, e y)] _ hb
  simp [execOp, this]

/-! a disk of one's own, from block B on; L: other blocks of one's own -/
def Mine (B : Nat) (L : List Nat) (k : Nat) : Prop := B ≤ k ∧ k ∉ L
def Own (B : Nat) (L : List Nat) (w w' : World) : Prop := Chg (Mine B L) w w'
theorem Own.below {B : Nat} {L : List Nat} {w w' : World} (h : Own B L w w') (hB : B ≤ w.heap.size) : Below B w w' := Chg.below h (fun _ h => h.1) hB
theorem Own.loc {B : Nat} {L : List Nat} {w w' : World} (h : Own B L w w') {k : Nat} (hk : k ∈ L) (hl : k < w.heap.size) : w'.heap[k]? = w.heap[k]? := h.keep k hl (fun h => h.2 hk)
theorem Own.old {B : Nat} {L : List Nat} {w w' : World} (h : Own B L w w') {k : Nat} (hk : k < B) (hl : k < w.heap.size) : w'.heap[k]? = w.heap[k]? := h.keep k hl (fun h => by have := h.1; omega)
structure Dk (B : Nat) (L : List Nat) (w : World) (r : Nat) (D : Dsk) : Prop where
  at_ : DiskAt w r (Mine B L) D
  le : B ≤ w.heap.size
  lt : ∀ k ∈ L, k < w.heap.size
theorem Dk.quiet {B : Nat} {L : List Nat} {w w' : World} {r : Nat} {D : Dsk} (h : Dk B L w r D) (c : Chg (fun _ => False) w w') : Dk B L w' r D ∧ Own B L w w' :=
  ⟨⟨h.at_.chg c (fun _ _ h => h), Nat.le_trans h.le c.size, fun k hk => Nat.lt_of_lt_of_le (h.lt k hk) c.size⟩, c.mono (fun _ h => h.elim)⟩
theorem Dk.next {B : Nat} {L : List Nat} {w w' : World} {r : Nat} {D D' : Dsk} (h0 : Dk B L w r D) (h : DiskAt w' r (Ext (Mine B L) w w') D') (c : Chg (Mine B L) w w') : Dk B L w' r D' ∧ Own B L w w' :=
  ⟨⟨h.mono (fun k hk _ => by
      rcases hk with h | h
      · exact h
      · exact ⟨by have := h0.le; omega, fun hk => by have := h0.lt k hk; omega⟩), Nat.le_trans h0.le c.size, fun k hk => Nat.lt_of_lt_of_le (h0.lt k hk) c.size⟩, c⟩
/-- a variable of one's own beside the disk -/
theorem Dk.var {B : Nat} {L : List Nat} {w : World} {r : Nat} {D : Dsk} (h : Dk B L w r D) (o : Obj) : Dk B (w.heap.size :: L) (w.alloc o) r D :=
  ⟨(h.at_.mono (fun k hk hl => show Mine B (w.heap.size :: L) k from ⟨hk.1, fun hm => by
      rcases List.mem_cons.1 hm with e | e
      · omega
      · exact hk.2 e⟩)).chg ((Chg.refl (fun _ => False) w).alloc o) (fun _ _ h => h), by have := h.le; simp; omega, fun k hk => by
    rcases List.mem_cons.1 hk with e | e
    · subst e; simp
    · have := h.lt k e; simp; omega⟩
/-- fewer blocks are told apart -/
theorem Dk.drop {B : Nat} {L L' : List Nat} {w : World} {r : Nat} {D : Dsk} (h : Dk B L w r D) (hL : ∀ k ∈ L', k ∈ L) : Dk B L' w r D :=
  ⟨h.at_.mono (fun _ hk _ => ⟨hk.1, fun hm => hk.2 (hL _ hm)⟩), h.le, fun k hk => h.lt k (hL k hk)⟩
theorem Own.drop {B : Nat} {L L' : List Nat} {w w' : World} (h : Own B L w w') (hL : ∀ k ∈ L', k ∈ L) : Own B L' w w' := Chg.mono h (fun _ hk => .inl ⟨hk.1, fun hm => hk.2 (hL _ hm)⟩)
theorem Own.trans {B : Nat} {L : List Nat} {a b c : World} (h : Own B L a b) (k : Own B L b c) : Own B L a c := Chg.trans h k (fun _ h => .inl h)
theorem Own.refl (B : Nat) (L : List Nat) (w : World) : Own B L w w := Chg.refl _ w
theorem Own.alloc {B : Nat} {L : List Nat} {a b : World} (h : Own B L a b) (o : Obj) : Own B L a (b.alloc o) := Chg.alloc h o
theorem Own.drew {B : Nat} {L : List Nat} {a b : World} (h : Own B L a b) : Own B L a b.drew := Chg.drew h
theorem Own.heap {B : Nat} {L : List Nat} {w w' : World} (h : Own B L w w') {k : Nat} {o : Obj} (hk : k ∈ L) (hl : w.heap[k]? = some o) : w'.heap[k]? = some o := (h.loc hk (lt_of_heap hl)).trans hl
theorem Own.cell {B : Nat} {L : List Nat} {w w' : World} (h : Own B L w w') {k i : Nat} {v : Value} (hk : k < B) (hl : w.cell? ⟨k, i, none⟩ = some v) : w'.cell? ⟨k, i, none⟩ = some v :=
  (cell_of_heap (h.old hk (World.block_lt_of_cell? w _ hl))).trans hl
theorem dk_new (n : Int) (w : World) : Calls Try.prog 15 #[.int .i64 n] w fun e w' => ∃ r, e = .returned (.pointer (some ⟨r, 0, none⟩)) ∧ Dk w.heap.size [] w' r (Dsk.new n) ∧ Own w.heap.size [] w w' :=
  (new_any n w).mono fun e w' ⟨r, he, h, c⟩ => ⟨r, he, ⟨h.mono (fun k hk _ => by rcases hk with h | h; exact h.elim; exact ⟨h.1, by simp⟩), c.size, by simp⟩, c.mono (fun _ h => h.elim)⟩
section
variable {B r : Nat} {L : List Nat} {D : Dsk} {w : World}
theorem dk_write (h : Dk B L w r D) (n : Int) (s : Sec) (hs : s.length = 64) (hl : D.wait.length < 3000000000000) :
    Calls Try.prog 16 #[.pointer (some ⟨r, 0, none⟩), .int .i64 n, .agg (secC s).toArray] w fun e w' => e = .returned (.int .i64 (errOf D.size D.down n)) ∧ Dk B L w' r (D.writeR n s) ∧ Own B L w w' :=
  (write_any r _ D n s w h.at_ hs hl).mono fun _ _ ⟨he, hd, c⟩ => ⟨he, h.next hd c⟩
theorem dk_read (h : Dk B L w r D) (n : Int) :
    Calls Try.prog 20 #[.pointer (some ⟨r, 0, none⟩), .int .i64 n] w fun e w' => e = .returned (.tuple #[.agg (secC (D.readR n)).toArray, .int .i64 (errOf D.size D.down n)]) ∧ Dk B L w' r D ∧ Own B L w w' :=
  (read_any r _ D n w h.at_).mono fun _ _ ⟨he, c⟩ => ⟨he, h.quiet c⟩
theorem dk_sync (h : Dk B L w r D) (hl : D.wait.length < 3000000000000) :
    Calls Try.prog 17 #[.pointer (some ⟨r, 0, none⟩)] w fun e w' => e = .returned (.int .i64 (if D.down then 24 else 0)) ∧ Dk B L w' r (if D.down then D else D.sync) ∧ Own B L w w' :=
  (sync_any r _ D w h.at_ hl).mono fun _ _ ⟨he, hd, c⟩ => ⟨he, h.next hd c⟩
theorem dk_arm (h : Dk B L w r D) (n : Int) (hn : n ≤ 9223372036854775807) :
    Calls Try.prog 21 #[.pointer (some ⟨r, 0, none⟩), .int .i64 n] w fun e w' => e = .returned (.tuple #[]) ∧ Dk B L w' r (D.arm n) ∧ Own B L w w' :=
  (arm_any r _ D w n hn h.at_).mono fun _ _ ⟨he, hd, c⟩ => ⟨he, h.next (hd.mono (fun _ h _ => .inl h)) c⟩
theorem dk_down (h : Dk B L w r D) : Calls Try.prog 22 #[.pointer (some ⟨r, 0, none⟩)] w fun e w' => e = .returned (.bool D.down) ∧ w = w' := down_any r _ D w h.at_
theorem dk_waiting (h : Dk B L w r D) : Calls Try.prog 18 #[.pointer (some ⟨r, 0, none⟩)] w fun e w' => e = .returned (.int .i64 D.wait.length) ∧ w = w' := waiting_any r _ D w h.at_
theorem dk_restart (h : Dk B L w r D) (v : Value) (ks : List Bool) (hv : BoolsAt w (Mine B L) v ks) (hl : D.wait.length < 3000000000000) :
    Calls Try.prog 19 #[.pointer (some ⟨r, 0, none⟩), v] w fun e w' => e = .returned (.tuple #[]) ∧ Dk B L w' r (D.restart ks) ∧ Own B L w w' :=
  (restart_any r _ D w v ks h.at_ hv hl).mono fun _ _ ⟨he, hd, c⟩ => ⟨he, h.next hd c⟩
/-- a list of bools that has just been written down -/
theorem bools_lit (B : Nat) (L : List Nat) (w : World) (ks : List Bool) (hk : ks.length ≤ 9223372036854775807) : BoolsAt (w.alloc (.cells (ks.map Value.bool).toArray 4)) (Mine B (w.heap.size :: L)) (.slice (some ⟨w.heap.size, 0, none⟩) ks.length ks.length) ks :=
  ⟨_, _, rfl, hk, fun _ => ⟨_, _, rfl, fun h => h.2 (by simp), fun i k hi => by rw [World.cell?_alloc_new]; simp [hi]⟩⟩
end
/-- of a disk that is not armed a change is nothing -/
def Dsk.calm (D : Dsk) : Prop := D.left = -1 ∧ D.down = false
theorem Dsk.calm.change {D : Dsk} (h : D.calm) : D.change = D := by unfold Dsk.change; rw [h.1]; simp
theorem Dsk.calm.write {D : Dsk} (h : D.calm) (n : Int) (s : Sec) : D.write n s = D.put n s := Dsk.calm.change (D := D.put n s) h
theorem new_calm (n : Int) : (Dsk.new n).calm := ⟨rfl, rfl⟩

attribute [local go_sem ↓] exec_build_sec1
theorem errOf_in {size n : Int} (h0 : 0 ≤ n) (h1 : n < size) : errOf size false n = 0 := by unfold errOf; rw [if_neg (by omega)]; rfl
theorem errOf_out {size n : Int} {d : Bool} (h : n < 0 ∨ size ≤ n) : errOf size d n = 1 := by unfold errOf; rw [if_pos (by omega)]
section
variable {B r : Nat} {L : List Nat} {D : Dsk} {w : World}
theorem dk_write_calm (h : Dk B L w r D) (hc : D.calm) (n : Int) (s : Sec) (h0 : 0 ≤ n) (h1 : n < D.size) (hs : s.length = 64) (hl : D.wait.length < 3000000000000) :
    Calls Try.prog 16 #[.pointer (some ⟨r, 0, none⟩), .int .i64 n, .agg (secC s).toArray] w fun e w' => e = .returned (.int .i64 0) ∧ Dk B L w' r (D.put n s) ∧ Own B L w w' := by
  have he : errOf D.size D.down n = 0 := by rw [hc.2]; exact errOf_in h0 h1
  refine (dk_write h n s hs hl).mono fun _ _ ⟨h2, h3, h4⟩ => ⟨by rw [h2, he], ?_, h4⟩
  rw [Dsk.writeR, if_pos he, hc.write] at h3
  exact h3
theorem dk_write_out (h : Dk B L w r D) (n : Int) (s : Sec) (h0 : n < 0 ∨ D.size ≤ n) (hs : s.length = 64) (hl : D.wait.length < 3000000000000) :
    Calls Try.prog 16 #[.pointer (some ⟨r, 0, none⟩), .int .i64 n, .agg (secC s).toArray] w fun e w' => e = .returned (.int .i64 1) ∧ Dk B L w' r D ∧ Own B L w w' := by
  have he : errOf D.size D.down n = 1 := errOf_out h0
  refine (dk_write h n s hs hl).mono fun _ _ ⟨h2, h3, h4⟩ => ⟨by rw [h2, he], ?_, h4⟩
  rw [Dsk.writeR, if_neg (by omega)] at h3
  exact h3
def Dsk.flat (D : Dsk) : Dsk := { D with kept := keepAll D.kept D.wait, wait := [] }
theorem dk_sync_calm (h : Dk B L w r D) (hc : D.calm) (hl : D.wait.length < 3000000000000) :
    Calls Try.prog 17 #[.pointer (some ⟨r, 0, none⟩)] w fun e w' => e = .returned (.int .i64 0) ∧ Dk B L w' r D.flat ∧ Own B L w w' := by
  refine (dk_sync h hl).mono fun _ _ ⟨h2, h3, h4⟩ => ⟨by rw [h2, hc.2]; rfl, ?_, h4⟩
  rw [hc.2] at h3
  have : D.sync = D.flat := Dsk.calm.change (D := D.flat) hc
  rw [← this]
  exact h3
theorem dk_read_in (h : Dk B L w r D) (hd : D.down = false) (n : Int) (h0 : 0 ≤ n) (h1 : n < D.size) :
    Calls Try.prog 20 #[.pointer (some ⟨r, 0, none⟩), .int .i64 n] w fun e w' => e = .returned (.tuple #[.agg (secC (D.now n)).toArray, .int .i64 0]) ∧ Dk B L w' r D ∧ Own B L w w' := by
  have he : errOf D.size D.down n = 0 := by rw [hd]; exact errOf_in h0 h1
  refine (dk_read h n).mono fun _ _ ⟨h2, h3⟩ => ⟨by rw [h2, he, Dsk.readR, if_pos he], h3⟩
theorem restart_calm (ks : List Bool) : (D.restart ks).calm := ⟨rfl, rfl⟩
theorem put_calm (h : D.calm) (n : Int) (s : Sec) : (D.put n s).calm := h
theorem flat_calm (h : D.calm) : D.flat.calm := h
end
theorem secC_secB (b : Int) : secC (secB b) = .int .u8 b :: secC z63 := rfl
theorem info_secC {s : Sec} (h : s.length = 64) : (Try.prog.info? 31).map (·.size) = some (secC s).length := by rw [secC_len, h]; exact info_sec
theorem info_secB (b : Int) : (Try.prog.info? 31).map (·.size) = some (Value.int .u8 b :: secC z63).length := info_secC (secB_len b)
theorem secB_cells (b : Int) : (Value.int .u8 b :: secC z63).length = 64 := (secC_len (secB b)).trans (secB_len b)
theorem one_secB (b : Int) : ∀ v ∈ Value.int .u8 b :: secC z63, v.oneCell' = true := secC_one (secB b)
/-- the disk of the beginning, step by step -/
def aw1 : Dsk := ((Dsk.new 2).put 0 (secB 1)).flat
def aw2 : Dsk := (aw1.put 0 (secB 2)).put 1 (secB 3)
def aw3 : Dsk := aw2.restart [false, true]
theorem aw3_0 : aw3.now 0 = secB 1 := rfl
theorem aw3_1 : aw3.now 1 = secB 3 := rfl
theorem secC_cons (b : Int) (s : Sec) : secC (b :: s) = .int .u8 b :: secC s := rfl
set_option maxRecDepth 100000 in
theorem awake3 (w : World) : Calls Try.prog 14 #[] w fun e w' => e = .returned (.bool true) ∧ Chg (fun _ => False) w w' := by
  go_enter Try.func14, Try.ntmps14
  go_wp2_with fail
  refine (dk_new 2 w).mono ?_
  rintro e w1 ⟨r, rfl, d1, b1⟩
  have B1 := Lib.hid b1; have D1 := Lib.hid d1
  clear b1 d1
  go_wp2_with fail
  refine (dk_write_calm D1.out (new_calm 2) 0 (secB 1) (by decide) (by decide) (secB_len 1) (by decide)).mono ?_
  rintro e w2 ⟨rfl, d2, b2⟩
  have B2 := Lib.hid (B1.out.trans b2); have D2 := Lib.hid d2
  clear b2 d2
  go_wp2_with fail
  refine (dk_sync_calm D2.out (new_calm 2) (by decide)).mono ?_
  rintro e w3 ⟨rfl, d3, b3⟩
  have B3 := Lib.hid (B2.out.trans b3); have D3 := Lib.hid (show Dk _ _ _ _ aw1 from d3)
  clear b3 d3
  go_wp2_with fail
  refine (dk_write_calm D3.out (new_calm 2) 0 (secB 2) (by decide) (by decide) (secB_len 2) (by decide)).mono ?_
  rintro e w4 ⟨rfl, d4, b4⟩
  have B4 := Lib.hid (B3.out.trans b4); have D4 := Lib.hid d4
  clear b4 d4
  go_wp2_with fail
  refine (dk_write_calm D4.out (new_calm 2) 1 (secB 3) (by decide) (by decide) (secB_len 3) (by decide)).mono ?_
  rintro e w5 ⟨rfl, d5, b5⟩
  have B5 := Lib.hid (B4.out.trans b5); have D5 := Lib.hid (show Dk _ _ _ _ aw2 from d5)
  clear b5 d5
  go_wp2_with fail
  refine (dk_restart (D5.out.var _) _ [false, true] (bools_lit _ [] w5 [false, true] (by decide)) (by decide)).mono ?_
  rintro e w6 ⟨rfl, d6, b6⟩
  have B6 := Lib.hid ((B5.out.alloc _).trans (b6.drop (by simp))); have D6 := Lib.hid (show Dk _ _ _ _ aw3 from d6.drop (L' := []) (by simp))
  clear b6 d6
  go_wp2_with fail
  refine (dk_read_in D6.out rfl 0 (by decide) (by decide)).mono ?_
  rintro e w7 ⟨rfl, d7, b7⟩
  have B7 := Lib.hid (B6.out.trans b7); have D7 := Lib.hid d7
  clear b7 d7
  rw [aw3_0, secC_secB]
  have HZ := Lib.hid info_sec0
  go_wp2_with (first | (refine wpList_alloc_big rfl 31 64 rfl HZ.out (fun zs hzs => ?_); have HZS := Lib.hid hzs; clear hzs) | (refine wpList_store_new rfl 31 _ _ rfl (Value.int .u8 1 :: secC z63) _ rfl rfl rfl ((secB_cells 1).trans HZS.out.symm) (info_secB 1) (one_secB 1) ?_))
  have d8 := D7.out.var (.cells (Value.int .u8 1 :: secC z63).toArray 31)
  have s8 := hal_new (w := w7) (o := .cells (Value.int .u8 1 :: secC z63).toArray 31)
  have S8 := Lib.hid s8; have D8 := Lib.hid d8; have B8 := Lib.hid (B7.out.alloc (.cells (Value.int .u8 1 :: secC z63).toArray 31))
  clear s8 d8
  refine (dk_read_in D8.out rfl 1 (by decide) (by decide)).mono ?_
  rintro e w9 ⟨rfl, d9, b9⟩
  have S9 := Lib.hid (b9.heap (by simp) S8.out)
  have B9 := Lib.hid (B8.out.trans (b9.drop (by simp))); have D9 := Lib.hid d9
  have l9 := lt_of_heap S9.out
  have c9 : w9.cell? ⟨w7.heap.size, 0, none⟩ = some (.int .u8 1) := cell_of_row w9 _ 0 _ _ _ S9.out
  clear b9 d9
  rw [aw3_1, secC_secB]
  have HL := Lib.hid (range_of_heap (hal_old (w := w9) (o := .cells (Value.int .u8 3 :: secC z63).toArray 31) l9) (range_block S9.out))
  go_wp2_with (first | (refine wpList_alloc_big rfl 31 64 rfl HZ.out (fun zs hzs => ?_); have HZS2 := Lib.hid hzs; clear hzs) | (refine wpList_store_new rfl 31 _ _ rfl (Value.int .u8 3 :: secC z63) _ rfl rfl rfl ((secB_cells 3).trans HZS2.out.symm) (info_secB 3) (one_secB 3) ?_) | (refine wpList_load_bigG rfl 31 _ rfl w7.heap.size 0 rfl (Value.int .u8 1 :: secC z63) _ HL.out Try.underlying31 rfl (info_secB 1) ?_))
  refine (dk_write_out (D9.out.var _) 2 (secB 1) (by right; decide) (secB_len 1) (by decide)).mono ?_
  rintro e w10 ⟨rfl, d10, b10⟩
  have B10 := Lib.hid ((B9.out.alloc _).trans (b10.drop (by simp)))
  clear b10 d10
  go_wp2
  go_ret
  exact ⟨rfl, Chg.mono B10.out (fun x hx => .inr hx.1)⟩
end Go.Proofs.Ytihpobpkhhkejaa
