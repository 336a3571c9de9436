/-
  The disk's record in memory, and what the functions may and change do. No condition beyond each lemma's own.
-/
import Derived.Test.YtihpobpkhhkejaaProg
import Derived.Test.YtihpobpkhhkejaaMaps
import Derived.Test.YtihpobpkhhkejaaLex
import Derived.WalkLawsBesides
import Derived.WalkSpells
import Derived.Deep.RegionHeld3
import Derived.Deep.RegionHeldLaw
import Derived.BigQuiet
import Derived.Lib.Hide
set_option autoImplicit false
namespace Go.Proofs.Ytihpobpkhhkejaa
open Go Go.RowKit

abbrev Sec := List Int
def secC (s : Sec) : List Value := s.map (Value.int .u8)
def secV (s : Sec) : Value := .agg (secC s).toArray
def sec0 : Sec := List.replicate 64 0
structure Dsk where
  size : Int
  now : Int → Sec
  kept : Int → Sec
  wait : List (Int × Sec)
  down : Bool
  left : Int
def wrC (x : Int × Sec) : List Value := .int .i64 x.1 :: secC x.2
def upd (f : Int → Sec) (n : Int) (s : Sec) (k : Int) : Sec := if k = n then s else f k
def MapSec (es : Array MapEntry) (f : Int → Sec) : Prop :=
  KeysTy (.int .i64) es.toList ∧ ∀ k, (mfind es.toList (.int .i64 k)).getD (secV sec0) = secV (f k)
def Dsk.ok (D : Dsk) : Prop :=
  0 ≤ D.size ∧ D.size ≤ 65536 ∧ -1 ≤ D.left ∧ D.left ≤ 9223372036854775807 ∧ (∀ k, (D.now k).length = 64) ∧ (∀ k, (D.kept k).length = 64) ∧ (∀ x ∈ D.wait, x.2.length = 64)
structure DiskIn (w : World) (r : Nat) (F : Nat → Prop) (D : Dsk) (nb kb : Nat) (wv : Value) (esn esk : Array MapEntry) (cn ck : Nat) : Prop where
  self : w.heap[r]? = some (.cells #[.int .i64 D.size, .map (some nb), .map (some kb), wv, .bool D.down, .int .i64 D.left] 91 (0, 0))
  now : w.heap[nb]? = some (.map esn cn)
  nowIs : MapSec esn D.now
  kept : w.heap[kb]? = some (.map esk ck)
  keptIs : MapSec esk D.kept
  ne : nb ≠ kb
  row : w.ownsRow 0 94 65 wv D.wait.length (D.wait.flatMap wrC)
  fr : F r
  fn : F nb
  fk : F kb
  fw : ∀ g, wv.ownBlock = some g → F g
  ok : D.ok
def DiskAt (w : World) (r : Nat) (F : Nat → Prop) (D : Dsk) : Prop := ∃ nb kb wv esn esk cn ck, DiskIn w r F D nb kb wv esn esk cn ck

theorem DiskIn.row_ne {w r F D nb kb wv esn esk cn ck} (h : DiskIn w r F D nb kb wv esn esk cn ck) {g : Nat} (hg : wv.ownBlock = some g) : g ≠ r ∧ g ≠ nb ∧ g ≠ kb := by
  obtain ⟨cur, hc⟩ := ownsRow_heap h.row hg
  refine ⟨?_, ?_, ?_⟩ <;> intro e <;> subst e
  · have := h.self; rw [hc] at this; simp at this
  · have := h.now; rw [hc] at this; simp at this
  · have := h.kept; rw [hc] at this; simp at this
theorem DiskIn.ner {w r F D nb kb wv esn esk cn ck} (h : DiskIn w r F D nb kb wv esn esk cn ck) : nb ≠ r ∧ kb ≠ r := by
  refine ⟨?_, ?_⟩ <;> intro e <;> subst e
  · have := h.self; rw [h.now] at this; simp at this
  · have := h.self; rw [h.kept] at this; simp at this
theorem DiskIn.chg {w w' r F G D nb kb wv esn esk cn ck} (h : DiskIn w r F D nb kb wv esn esk cn ck) (c : Chg G w w') (hd : ∀ k, F k → ¬ G k) : DiskIn w' r F D nb kb wv esn esk cn ck :=
  ⟨c.heap h.self (hd _ h.fr), c.heap h.now (hd _ h.fn), h.nowIs, c.heap h.kept (hd _ h.fk), h.keptIs, h.ne, ownsRow_chg h.row c (fun g hg => hd g (h.fw g hg)), h.fr, h.fn, h.fk, h.fw, h.ok⟩
theorem DiskAt.chg {w w' : World} {r : Nat} {F G : Nat → Prop} {D : Dsk} (h : DiskAt w r F D) (c : Chg G w w') (hd : ∀ k, F k → ¬ G k) : DiskAt w' r F D := by
  obtain ⟨nb, kb, wv, esn, esk, cn, ck, h⟩ := h
  exact ⟨nb, kb, wv, esn, esk, cn, ck, h.chg c hd⟩
theorem DiskIn.mono {w r F G D nb kb wv esn esk cn ck} (h : DiskIn w r F D nb kb wv esn esk cn ck) (hG : ∀ k, F k → k < w.heap.size → G k) : DiskIn w r G D nb kb wv esn esk cn ck :=
  ⟨h.self, h.now, h.nowIs, h.kept, h.keptIs, h.ne, h.row, hG _ h.fr (lt_of_heap h.self), hG _ h.fn (lt_of_heap h.now), hG _ h.fk (lt_of_heap h.kept), fun g hg => hG _ (h.fw g hg) (ownsRow_lt h.row hg), h.ok⟩
theorem DiskAt.mono {w : World} {r : Nat} {F G : Nat → Prop} {D : Dsk} (h : DiskAt w r F D) (hG : ∀ k, F k → k < w.heap.size → G k) : DiskAt w r G D := by
  obtain ⟨nb, kb, wv, esn, esk, cn, ck, h⟩ := h
  exact ⟨nb, kb, wv, esn, esk, cn, ck, h.mono hG⟩
theorem DiskAt.ok {w : World} {r : Nat} {F : Nat → Prop} {D : Dsk} (h : DiskAt w r F D) : D.ok := by
  obtain ⟨nb, kb, wv, esn, esk, cn, ck, h⟩ := h
  exact h.ok
/-- The cells of the disk's record, as the walk wants them. -/
theorem DiskIn.cells {w r F D nb kb wv esn esk cn ck} (h : DiskIn w r F D nb kb wv esn esk cn ck) :
    w.cell? ⟨r, 0, none⟩ = some (.int .i64 D.size) ∧ w.cell? ⟨r, 1, none⟩ = some (.map (some nb)) ∧ w.cell? ⟨r, 2, none⟩ = some (.map (some kb)) ∧ w.cell? ⟨r, 3, none⟩ = some wv ∧
    w.cell? ⟨r, 4, none⟩ = some (.bool D.down) ∧ w.cell? ⟨r, 5, none⟩ = some (.int .i64 D.left) ∧ r < w.heap.size :=
  ⟨cell_of_row w r 0 _ _ _ h.self, cell_of_row w r 1 _ _ _ h.self, cell_of_row w r 2 _ _ _ h.self, cell_of_row w r 3 _ _ _ h.self, cell_of_row w r 4 _ _ _ h.self, cell_of_row w r 5 _ _ _ h.self, lt_of_heap h.self⟩
theorem DiskIn.free {w r F D nb kb wv esn esk cn ck} (h : DiskIn w r F D nb kb wv esn esk cn ck) (o : Nat) : w.frozen? ⟨r, o, none⟩ = false := frozen_of_row w r o _ _ h.self

/-! what may be done -/
def errOf (size : Int) (down : Bool) (n : Int) : Int := if n < 0 ∨ n ≥ size then 1 else if down then 24 else 0
def mayR (size : Int) (down : Bool) (n : Int) : Int := if n < 0 ∨ (n ≥ size ∧ n > 0) then 1 else if down then 24 else 0
theorem mayR_lt {size n : Int} {down : Bool} (h : n < size) : mayR size down n = errOf size down n := by unfold mayR errOf; congr 1; simp; omega
theorem mayR_zero (size : Int) (down : Bool) : mayR size down 0 = if down then 24 else 0 := by unfold mayR; simp
theorem may_nil (n : Int) (w : World) : Calls Try.prog 45 #[.pointer none, .int .i64 n] w fun e w' => e = .returned (.int .i64 2) ∧ w = w' := by
  go_enter Try.func45, Try.ntmps45
  go_wp2
  go_ret
  exact ⟨rfl, rfl⟩
set_option maxHeartbeats 400000 in
theorem may_any (r : Nat) (n size : Int) (down : Bool) (w : World) (h0 : w.cell? ⟨r, 0, none⟩ = some (.int .i64 size)) (h1 : w.cell? ⟨r, 4, none⟩ = some (.bool down)) :
    Calls Try.prog 45 #[.pointer (some ⟨r, 0, none⟩), .int .i64 n] w fun e w' => e = .returned (.int .i64 (mayR size down n)) ∧ w = w' := by
  go_enter Try.func45, Try.ntmps45
  go_wp2
  all_goals (go_ret; refine ⟨?_, rfl⟩; unfold mayR; congr 2; split <;> (try split) <;> simp_all <;> omega)

def chgW (w : World) (r : Nat) (left : Int) : World := if 0 < left then (w.setCell ⟨r, 5, none⟩ (.int .i64 (left - 1))).setCell ⟨r, 4, none⟩ (.bool (left - 1 == 0)) else w
theorem change_cells (r : Nat) (left : Int) (down : Bool) (w : World) (h5 : w.cell? ⟨r, 5, none⟩ = some (.int .i64 left)) (h4 : w.cell? ⟨r, 4, none⟩ = some (.bool down))
    (f : ∀ o, w.frozen? ⟨r, o, none⟩ = false) (b0 : -1 ≤ left) (b1 : left ≤ 9223372036854775807) :
    Calls Try.prog 46 #[.pointer (some ⟨r, 0, none⟩)] w fun e w' => e = .returned (.tuple #[]) ∧ chgW w r left = w' := by
  have hw := @chgW.eq_1 w r left
  by_cases hl : 0 < left
  · rw [if_pos hl] at hw
    have HW := Lib.hid hw; clear hw
    go_enter Try.func46, Try.ntmps46
    go_wp2
    go_end0
    exact ⟨rfl, HW.out⟩
  · rw [if_neg hl] at hw
    have HW := Lib.hid hw; clear hw
    go_enter Try.func46, Try.ntmps46
    go_wp2
    go_end0
    exact ⟨rfl, HW.out⟩

/-! the abstract steps -/
def Dsk.change (D : Dsk) : Dsk := if 0 < D.left then { D with left := D.left - 1, down := D.left - 1 == 0 } else D
def Dsk.put (D : Dsk) (n : Int) (s : Sec) : Dsk := { D with now := upd D.now n s, wait := D.wait ++ [(n, s)] }
def Dsk.write (D : Dsk) (n : Int) (s : Sec) : Dsk := (D.put n s).change
theorem Dsk.change_ok {D : Dsk} (h : D.ok) : D.change.ok := by
  unfold Dsk.change
  split
  · obtain ⟨h1, h2, h3, h4, h5, h6, h7⟩ := h
    exact ⟨h1, h2, by show -1 ≤ D.left - 1; omega, by show D.left - 1 ≤ _; omega, h5, h6, h7⟩
  · exact h
theorem upd_len {f : Int → Sec} {n : Int} {s : Sec} (h : ∀ k, (f k).length = 64) (hs : s.length = 64) (k : Int) : (upd f n s k).length = 64 := by
  unfold upd; split <;> simp_all
theorem Dsk.put_ok {D : Dsk} (h : D.ok) (n : Int) {s : Sec} (hs : s.length = 64) : (D.put n s).ok := by
  obtain ⟨h1, h2, h3, h4, h5, h6, h7⟩ := h
  refine ⟨h1, h2, h3, h4, upd_len h5 hs, h6, ?_⟩
  intro x hx
  simp only [Dsk.put, List.mem_append, List.mem_singleton] at hx
  rcases hx with hx | rfl
  · exact h7 x hx
  · exact hs
theorem MapSec.put {es : Array MapEntry} {f : Int → Sec} (h : MapSec es f) (c : Nat) (n : Int) (s : Sec) : MapSec (mput es c (.int .i64 n) (secV s)) (upd f n s) := by
  refine ⟨mput_keys (by rfl) h.1, fun k => ?_⟩
  rw [mfind_mput (d := .int .i64) (by rfl), kmatch_int]
  unfold upd
  by_cases hk : k = n
  · simp [hk]
  · simp [hk, h.2 k]
/-- change, on the whole disk -/
theorem DiskIn.chgW {w r F D nb kb wv esn esk cn ck} (h : DiskIn w r F D nb kb wv esn esk cn ck) : DiskIn (chgW w r D.left) r F D.change nb kb wv esn esk cn ck ∧ Chg F w (chgW w r D.left) := by
  unfold Go.Proofs.Ytihpobpkhhkejaa.chgW
  by_cases hl : 0 < D.left
  · have e : D.change = { D with left := D.left - 1, down := D.left - 1 == 0 } := by unfold Dsk.change; rw [if_pos hl]
    have hok := Dsk.change_ok h.ok
    rw [e] at hok ⊢
    rw [if_pos hl]
    have c : Chg F w ((w.setCell ⟨r, 5, none⟩ (.int .i64 (D.left - 1))).setCell ⟨r, 4, none⟩ (.bool (D.left - 1 == 0))) := ((Chg.refl F w).setCell (.inl h.fr) _).setCell (.inl h.fr) _
    have n1 := h.ner.1
    have n2 := h.ner.2
    refine ⟨⟨?_, ?_, h.nowIs, ?_, h.keptIs, h.ne, ?_, h.fr, h.fn, h.fk, h.fw, hok⟩, c⟩
    · rw [hset_eq (hset_eq h.self)]; rfl
    · rw [hset_ne n1, hset_ne n1]; exact h.now
    · rw [hset_ne n2, hset_ne n2]; exact h.kept
    · refine ownsRow_chg (F := fun k => k = r) h.row (((Chg.refl (fun k => k = r) w).setCell (p := ⟨r, 5, none⟩) (.inl rfl) _).setCell (p := ⟨r, 4, none⟩) (.inl rfl) _) ?_
      exact fun g hg => (h.row_ne hg).1
  · have e : D.change = D := by unfold Dsk.change; rw [if_neg hl]
    rw [e, if_neg hl]
    exact ⟨h, Chg.refl F w⟩
theorem change_any (r : Nat) (F : Nat → Prop) (D : Dsk) (w : World) (h : DiskAt w r F D) :
    Calls Try.prog 46 #[.pointer (some ⟨r, 0, none⟩)] w fun e w' => e = .returned (.tuple #[]) ∧ DiskAt w' r F D.change ∧ Chg F w w' := by
  obtain ⟨nb, kb, wv, esn, esk, cn, ck, h⟩ := h
  obtain ⟨c0, c1, c2, c3, c4, c5, c6⟩ := h.cells
  refine (change_cells r D.left D.down w c5 c4 h.free h.ok.2.2.1 h.ok.2.2.2.1).mono ?_
  rintro e w' ⟨rfl, rfl⟩
  exact ⟨rfl, ⟨nb, kb, wv, esn, esk, cn, ck, h.chgW.1⟩, h.chgW.2⟩
theorem secC_one (s : Sec) : ∀ u ∈ secC s, u.oneCell' = true := by
  intro u hu
  obtain ⟨_, _, rfl⟩ := List.mem_map.1 hu
  rfl
theorem wrC_one (x : Int × Sec) : ∀ u ∈ wrC x, u.oneCell' = true := by
  intro u hu
  simp only [wrC, List.mem_cons] at hu
  rcases hu with rfl | hu
  · rfl
  · exact secC_one _ u hu
@[simp] theorem secC_len (s : Sec) : (secC s).length = s.length := by simp [secC]
@[simp] theorem wrC_len (x : Int × Sec) : (wrC x).length = x.2.length + 1 := by simp [wrC]

theorem built_wr (parts : List (Nat × Value)) : Try.prog.built 94 parts = Instr.fill (#[(0, 1), (1, 64)][·]?) (Array.replicate 65 (.int .u8 0) |>.setIfInBounds 0 (.int .i64 0)) parts := by
  kernel_rfl
theorem exec_build_wr (e : Operand → Value) (dst : Option Tmp) (x y : Operand) (ty : TypeId) (pos : String) (after : Array Edge) (g : Option (Nat × Bool)) (w : World) (h1 : (e x).cells.size = 1) (h2 : (e y).cells.size = 64) :
    (execOp e ⟨dst, .build 94 #[(0, x), (1, y)], ty, pos, after, g⟩).run Try.prog w = .ok (.value (.agg ((e x).cells ++ (e y).cells))) w := by
  have hb : Try.prog.built 94 [(0, e x), (1, e y)] = some ((e x).cells ++ (e y).cells) := by
    rw [built_wr, fill_cons (off := 0) (size := 1) rfl h1 (by decide), fill_cons (off := 1) (size := 64) rfl h2 (by simp [splice, h1])]
    unfold Instr.fill
    congr 1
    apply Array.ext (by simp [splice, h1, h2])
    intro i hi1 hi2
    simp only [Array.size_append, h1, h2] at hi2
    simp [splice, h1, h2, Array.getElem_append]
    split
    · rfl
    · rw [dif_pos (by omega)]
  have := run_build (P := Try.prog) w 94 #[(0, e x), (1, e y)] _ hb
  simp [execOp, this]
theorem info_wr : (Try.prog.info? 94).map (fun i => (i.size, i.bytes, (i.zero.getD undef).cells.size, i.zero.isSome)) = some (65, 72, 65, true) := by kernel_rfl
theorem wr_info : ∃ i z, Try.prog.info? 94 = some i ∧ i.zero = some z ∧ i.size = 65 ∧ i.bytes = 72 ∧ z.cells.size = 65 := by
  obtain ⟨i, hi, hzz⟩ := Option.map_eq_some_iff.1 info_wr
  simp only [Prod.mk.injEq] at hzz
  obtain ⟨z, hz⟩ := Option.isSome_iff_exists.1 hzz.2.2.2
  refine ⟨i, z, hi, hz, hzz.1, hzz.2.1, ?_⟩
  have := hzz.2.2.1
  rw [hz] at this
  exact this
theorem exec_slice_wr (e : Operand → Value) (dst : Option Tmp) (x : Operand) (ty : TypeId) (pos : String) (after : Array Edge) (g : Option (Nat × Bool)) (w : World) (h1 : (e x).cells.size = 65) :
    (execOp e ⟨dst, .buildSlice 89 1 #[(0, x)], ty, pos, after, g⟩).run Try.prog w = .ok (.value (.slice (some ⟨w.heap.size, 0, none⟩) 1 1)) (w.alloc (.cells (e x).cells 94)) := by
  obtain ⟨i, z, hi, hz, hs, _, hzs⟩ := wr_info
  have := run_buildSlice1 (P := Try.prog) (v := e x) w Try.underlying89 hi hz (by rw [h1, hs]) (by omega) (by omega) (by omega)
  simp [execOp, this]
attribute [local go_sem ↓] exec_build_wr exec_slice_wr
theorem write_err (r : Nat) (F : Nat → Prop) (D : Dsk) (n : Int) (s : Sec) (w : World) (h : DiskAt w r F D) (he : errOf D.size D.down n ≠ 0) :
    Calls Try.prog 16 #[.pointer (some ⟨r, 0, none⟩), .int .i64 n, secV s] w fun e w' => e = .returned (.int .i64 (errOf D.size D.down n)) ∧ Chg (fun _ => False) w w' := by
  obtain ⟨nb, kb, wv, esn, esk, cn, ck, h⟩ := h
  obtain ⟨c0, c1, c2, c3, c4, c5, c6⟩ := h.cells
  unfold secV
  generalize (secC s).toArray = sv
  generalize D.size = size at *
  generalize D.down = down at *
  by_cases hn : n < size
  · have hm := mayR_lt (down := down) hn
    have he' : (mayR size down n != 0) = true := by rw [hm]; simpa using he
    generalize hz : mayR size down n = z at *
    have HM := Lib.hid hm; have HZ := Lib.hid hz; clear hm he hz
    go_enter Try.func16, Try.ntmps16
    go_wp2_with fail
    refine (may_any _ _ size down _ ?_ ?_).mono ?_
    · rw [World.cell?_alloc_lt _ _ _ c6]; exact c0
    · rw [World.cell?_alloc_lt _ _ _ c6]; exact c4
    rintro e w' ⟨rfl, rfl⟩
    rw [HZ.out]
    go_wp2
    go_ret
    exact ⟨by rw [← HM.out]; rfl, (Chg.refl _ _).alloc _⟩
  · have he1 : errOf size down n = 1 := by unfold errOf; rw [if_pos (by omega)]
    rw [he1]
    clear he he1
    go_enter Try.func16, Try.ntmps16
    go_wp2
    go_ret
    exact ⟨rfl, (Chg.refl _ _).alloc _⟩

end Go.Proofs.Ytihpobpkhhkejaa
