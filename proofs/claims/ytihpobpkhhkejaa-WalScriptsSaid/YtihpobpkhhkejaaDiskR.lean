/-
  What the disk's Size, Down, Waiting, Arm, Read and Sync do. Conditions: a disk stands at the address, fewer than 3000000000000 writes wait.
-/
import Derived.Test.YtihpobpkhhkejaaDiskW
set_option autoImplicit false
namespace Go.Proofs.Ytihpobpkhhkejaa
open Go Go.RowKit

/-! the disk's record, step by step -/
theorem DiskIn.alloc {w r F D nb kb wv esn esk cn ck} (h : DiskIn w r F D nb kb wv esn esk cn ck) (o : Obj) : DiskIn (w.alloc o) r F D nb kb wv esn esk cn ck :=
  h.chg ((Chg.refl (fun _ => False) w).alloc o) (fun _ _ h => h)
theorem DiskIn.drew {w r F D nb kb wv esn esk cn ck} (h : DiskIn w r F D nb kb wv esn esk cn ck) : DiskIn w.drew r F D nb kb wv esn esk cn ck :=
  h.chg (Chg.refl (fun _ => False) w).drew (fun _ _ h => h)
theorem ownsRow_set {w : World} {b e s n r i : Nat} {v u : Value} {xs : List Value} (h : w.ownsRow b e s v n xs) (hr : ∀ g, v.ownBlock = some g → g ≠ r) : (w.setCell ⟨r, i, none⟩ u).ownsRow b e s v n xs :=
  ownsRow_chg (F := fun k => k = r) h ((Chg.refl (fun k => k = r) w).setCell (p := ⟨r, i, none⟩) (.inl rfl) _) hr
theorem ownsRow_obj {w : World} {b e s n r : Nat} {v : Value} {x : Obj} {xs : List Value} (h : w.ownsRow b e s v n xs) (hr : ∀ g, v.ownBlock = some g → g ≠ r) : (setObj w r x).ownsRow b e s v n xs :=
  ownsRow_chg (F := fun k => k = r) h ((Chg.refl (fun k => k = r) w).setObj (.inl rfl) _) hr
theorem DiskIn.setKept {w r F D nb kb wv esn esk cn ck} (h : DiskIn w r F D nb kb wv esn esk cn ck) (n : Int) {s : Sec} (hs : s.length = 64) :
    DiskIn (setObj w kb (.map (mput esk ck (.int .i64 n) (secV s)) (mclock esk ck (.int .i64 n)))) r F { D with kept := upd D.kept n s } nb kb wv esn (mput esk ck (.int .i64 n) (secV s)) cn (mclock esk ck (.int .i64 n)) := by
  obtain ⟨o1, o2, o3, o4, o5, o6, o7⟩ := h.ok
  refine ⟨?_, ?_, h.nowIs, hobj_eq (lt_of_heap h.kept), h.keptIs.put ck n s, h.ne, ownsRow_obj h.row (fun g hg => (h.row_ne hg).2.2), h.fr, h.fn, h.fk, h.fw, ⟨o1, o2, o3, o4, o5, upd_len o6 hs, o7⟩⟩
  · rw [hobj_ne h.ner.2.symm]; exact h.self
  · rw [hobj_ne h.ne]; exact h.now
theorem DiskIn.setNow {w r F D nb kb wv esn esk cn ck} (h : DiskIn w r F D nb kb wv esn esk cn ck) (n : Int) {s : Sec} (hs : s.length = 64) :
    DiskIn (setObj w nb (.map (mput esn cn (.int .i64 n) (secV s)) (mclock esn cn (.int .i64 n)))) r F { D with now := upd D.now n s } nb kb wv (mput esn cn (.int .i64 n) (secV s)) esk (mclock esn cn (.int .i64 n)) ck := by
  obtain ⟨o1, o2, o3, o4, o5, o6, o7⟩ := h.ok
  refine ⟨?_, hobj_eq (lt_of_heap h.now), h.nowIs.put cn n s, ?_, h.keptIs, h.ne, ownsRow_obj h.row (fun g hg => (h.row_ne hg).2.1), h.fr, h.fn, h.fk, h.fw, ⟨o1, o2, o3, o4, upd_len o5 hs, o6, o7⟩⟩
  · rw [hobj_ne h.ner.1.symm]; exact h.self
  · rw [hobj_ne h.ne.symm]; exact h.kept
theorem DiskIn.setNil {w r F D nb kb wv esn esk cn ck} (h : DiskIn w r F D nb kb wv esn esk cn ck) :
    DiskIn (w.setCell ⟨r, 3, none⟩ (.slice none 0 0)) r F { D with wait := [] } nb kb (.slice none 0 0) esn esk cn ck := by
  obtain ⟨o1, o2, o3, o4, o5, o6, o7⟩ := h.ok
  refine ⟨?_, ?_, h.nowIs, ?_, h.keptIs, h.ne, World.ownsRow_nil _ _ _ _, h.fr, h.fn, h.fk, fun g hg => by simp [Value.ownBlock] at hg, ⟨o1, o2, o3, o4, o5, o6, fun x hx => by cases hx⟩⟩
  · rw [hset_eq h.self]; rfl
  · rw [hset_ne h.ner.1]; exact h.now
  · rw [hset_ne h.ner.2]; exact h.kept
theorem DiskIn.setDown {w r F D nb kb wv esn esk cn ck} (h : DiskIn w r F D nb kb wv esn esk cn ck) (b : Bool) :
    DiskIn (w.setCell ⟨r, 4, none⟩ (.bool b)) r F { D with down := b } nb kb wv esn esk cn ck := by
  refine ⟨?_, ?_, h.nowIs, ?_, h.keptIs, h.ne, ownsRow_set h.row (fun g hg => (h.row_ne hg).1), h.fr, h.fn, h.fk, h.fw, h.ok⟩
  · rw [hset_eq h.self]; rfl
  · rw [hset_ne h.ner.1]; exact h.now
  · rw [hset_ne h.ner.2]; exact h.kept
theorem DiskIn.setLeft {w r F D nb kb wv esn esk cn ck} (h : DiskIn w r F D nb kb wv esn esk cn ck) (n : Int) (h1 : -1 ≤ n) (h2 : n ≤ 9223372036854775807) :
    DiskIn (w.setCell ⟨r, 5, none⟩ (.int .i64 n)) r F { D with left := n } nb kb wv esn esk cn ck := by
  obtain ⟨o1, o2, o3, o4, o5, o6, o7⟩ := h.ok
  refine ⟨?_, ?_, h.nowIs, ?_, h.keptIs, h.ne, ownsRow_set h.row (fun g hg => (h.row_ne hg).1), h.fr, h.fn, h.fk, h.fw, ⟨o1, o2, h1, h2, o5, o6, o7⟩⟩
  · rw [hset_eq h.self]; rfl
  · rw [hset_ne h.ner.1]; exact h.now
  · rw [hset_ne h.ner.2]; exact h.kept

/-! the small calls -/
theorem down_nil (w : World) : Calls Try.prog 22 #[.pointer none] w fun e w' => e = .returned (.bool false) ∧ w = w' := by
  go_enter Try.func22, Try.ntmps22
  go_wp2
  go_ret
  exact ⟨rfl, rfl⟩
theorem down_any (r : Nat) (F : Nat → Prop) (D : Dsk) (w : World) (h : DiskAt w r F D) : Calls Try.prog 22 #[.pointer (some ⟨r, 0, none⟩)] w fun e w' => e = .returned (.bool D.down) ∧ w = w' := by
  obtain ⟨nb, kb, wv, esn, esk, cn, ck, h⟩ := h
  obtain ⟨c0, c1, c2, c3, c4, c5, c6⟩ := h.cells
  clear h
  go_enter Try.func22, Try.ntmps22
  go_wp2
  go_ret
  exact ⟨rfl, rfl⟩
theorem size_nil (w : World) : Calls Try.prog 50 #[.pointer none] w fun e w' => e = .returned (.int .i64 0) ∧ w = w' := by
  go_enter Try.func50, Try.ntmps50
  go_wp2
  go_ret
  exact ⟨rfl, rfl⟩
theorem size_any (r : Nat) (F : Nat → Prop) (D : Dsk) (w : World) (h : DiskAt w r F D) : Calls Try.prog 50 #[.pointer (some ⟨r, 0, none⟩)] w fun e w' => e = .returned (.int .i64 D.size) ∧ w = w' := by
  obtain ⟨nb, kb, wv, esn, esk, cn, ck, h⟩ := h
  obtain ⟨c0, c1, c2, c3, c4, c5, c6⟩ := h.cells
  clear h
  go_enter Try.func50, Try.ntmps50
  go_wp2
  go_ret
  exact ⟨rfl, rfl⟩
theorem waiting_nil (w : World) : Calls Try.prog 18 #[.pointer none] w fun e w' => e = .returned (.int .i64 0) ∧ w = w' := by
  go_enter Try.func18, Try.ntmps18
  go_wp2
  go_ret
  exact ⟨rfl, rfl⟩
theorem waiting_any (r : Nat) (F : Nat → Prop) (D : Dsk) (w : World) (h : DiskAt w r F D) : Calls Try.prog 18 #[.pointer (some ⟨r, 0, none⟩)] w fun e w' => e = .returned (.int .i64 D.wait.length) ∧ w = w' := by
  obtain ⟨nb, kb, wv, esn, esk, cn, ck, h⟩ := h
  obtain ⟨c0, c1, c2, c3, c4, c5, c6⟩ := h.cells
  obtain ⟨ao, c, rfl, _⟩ := ownsRow_form h.row
  clear h
  go_enter Try.func18, Try.ntmps18
  go_wp2
  go_ret
  exact ⟨rfl, rfl⟩
def Dsk.arm (D : Dsk) (n : Int) : Dsk := if D.down then D else { D with left := if n < -1 then -1 else n, down := n == 0 }
theorem arm_nil (n : Int) (w : World) : Calls Try.prog 21 #[.pointer none, .int .i64 n] w fun e w' => e = .returned (.tuple #[]) ∧ w = w' := by
  go_enter Try.func21, Try.ntmps21
  go_wp2
  refine bodyPost_ret (results_none rfl _ _ _) rfl ?_
  exact ⟨rfl, rfl⟩
theorem arm_any (r : Nat) (F : Nat → Prop) (D : Dsk) (w : World) (n : Int) (hn : n ≤ 9223372036854775807) (h : DiskAt w r F D) : Calls Try.prog 21 #[.pointer (some ⟨r, 0, none⟩), .int .i64 n] w fun e w' => e = .returned (.tuple #[]) ∧ DiskAt w' r F (D.arm n) ∧ Chg F w w' := by
  obtain ⟨nb, kb, wv, esn, esk, cn, ck, h⟩ := h
  obtain ⟨c0, c1, c2, c3, c4, c5, c6⟩ := h.cells
  have f5 := h.free 5
  have f4 := h.free 4
  have HH := Lib.hid h
  clear h
  cases hd : D.down with
  | true =>
    have e : D.arm n = D := by unfold Dsk.arm; rw [if_pos hd]
    have HE := Lib.hid e
    rw [hd] at c4
    clear e hd
    go_enter Try.func21, Try.ntmps21
    go_wp2
    refine bodyPost_ret (results_none rfl _ _ _) rfl ?_
    exact ⟨rfl, by rw [HE.out]; exact ⟨nb, kb, wv, esn, esk, cn, ck, HH.out⟩, Chg.refl _ _⟩
  | false =>
    have e : D.arm n = { D with left := if n < -1 then -1 else n, down := n == 0 } := by unfold Dsk.arm; simp [hd]
    have HE := Lib.hid e
    rw [hd] at c4
    clear e hd
    have key : DiskAt ((w.setCell ⟨r, 5, none⟩ (.int .i64 (if n < -1 then -1 else n))).setCell ⟨r, 4, none⟩ (.bool (n == 0))) r F (D.arm n) := by
      rw [HE.out]
      exact ⟨nb, kb, wv, esn, esk, cn, ck, (HH.out.setLeft _ (by split <;> omega) (by split <;> omega)).setDown _⟩
    have kc : Chg F w ((w.setCell ⟨r, 5, none⟩ (.int .i64 (if n < -1 then -1 else n))).setCell ⟨r, 4, none⟩ (.bool (n == 0))) := ((Chg.refl F w).setCell (.inl HH.out.fr) _).setCell (.inl HH.out.fr) _
    by_cases hlt : n < -1
    · rw [if_pos hlt] at key kc
      have HK := Lib.hid key; have HC := Lib.hid kc
      clear key kc
      go_enter Try.func21, Try.ntmps21
      go_wp2
      go_end0
      exact ⟨rfl, HK.out, HC.out⟩
    · rw [if_neg hlt] at key kc
      have HK := Lib.hid key; have HC := Lib.hid kc
      clear key kc
      go_enter Try.func21, Try.ntmps21
      go_wp2
      go_end0
      exact ⟨rfl, HK.out, HC.out⟩

/-! Read -/
theorem info_sec0 : (Try.prog.info? 31).map (fun i => ((i.zero.getD undef).cells.size, i.zero.isSome)) = some (64, true) := by kernel_rfl
theorem info_sec : (Try.prog.info? 31).map (·.size) = some 64 := by kernel_rfl
theorem zero_sec (w : World) : (zeroValue 31).run Try.prog w = .ok (secV sec0) w := by kernel_rfl
theorem built_sec0 : Try.prog.built 31 [] = some (secC sec0).toArray := by kernel_rfl
theorem exec_build_sec0 (e : Operand → Value) (dst : Option Tmp) (ty : TypeId) (pos : String) (after : Array Edge) (g : Option (Nat × Bool)) (w : World) :
    (execOp e ⟨dst, .build 31 #[], ty, pos, after, g⟩).run Try.prog w = .ok (.value (.agg (secC sec0).toArray)) w := by
  have := run_build (P := Try.prog) w 31 #[] _ built_sec0
  simp [execOp, this]
theorem MapSec.look {es : Array MapEntry} {f : Int → Sec} (h : MapSec es f) (k : Int) {w : World} {b c : Nat} (hb : w.heap[b]? = some (.map es c)) :
    (Instr.lookup 88 (.map (some b)) (.int .i64 k) false).run Try.prog w = .ok (.agg (secC (f k)).toArray) w := by
  have := run_lookup (P := Try.prog) w (t := 88) (kt := 3) (et := 31) (d := .int .i64) (k := .int .i64 k) Try.underlying88 Try.underlying3 (by rfl) hb h.1 zero_sec false
  rw [this, h.2 k]
  rfl
def Dsk.readR (D : Dsk) (n : Int) : Sec := if errOf D.size D.down n = 0 then D.now n else sec0
theorem sec0_len : sec0.length = 64 := by simp [sec0]
attribute [local go_sem ↓] exec_build_sec0
set_option maxRecDepth 100000 in
theorem read_err (r : Nat) (F : Nat → Prop) (D : Dsk) (n : Int) (w : World) (h : DiskAt w r F D) (he : errOf D.size D.down n ≠ 0) :
    Calls Try.prog 20 #[.pointer (some ⟨r, 0, none⟩), .int .i64 n] w fun e w' => e = .returned (.tuple #[secV sec0, .int .i64 (errOf D.size D.down n)]) ∧ Chg (fun _ => False) w w' := by
  obtain ⟨nb, kb, wv, esn, esk, cn, ck, h⟩ := h
  obtain ⟨c0, c1, c2, c3, c4, c5, c6⟩ := h.cells
  clear h
  generalize D.size = size at *
  generalize D.down = down at *
  have hsl : (secC sec0).length = 64 := by simp [sec0_len]
  have hi0 := info_sec0
  have hi1 : (Try.prog.info? 31).map (·.size) = some (secC sec0).length := by rw [hsl]; exact info_sec
  have H0 := Lib.hid hi0; have H1 := Lib.hid hi1; have H2 := Lib.hid hsl
  clear hi0 hi1 hsl
  by_cases hn : n < size
  · have hm := mayR_lt (down := down) hn
    have he' : (mayR size down n != 0) = true := by rw [hm]; simpa using he
    generalize hz : mayR size down n = z at *
    have HM := Lib.hid hm; have HZ := Lib.hid hz; clear hm he hz
    go_enter Try.func20, Try.ntmps20
    go_wp2_with (refine wpList_alloc_big rfl 31 64 rfl H0.out (fun zs hzs => ?_))
    have HZS := Lib.hid hzs
    clear hzs
    refine (may_any _ _ size down _ ?_ ?_).mono ?_
    · rw [World.cell?_alloc_lt _ _ _ c6]; exact c0
    · rw [World.cell?_alloc_lt _ _ _ c6]; exact c4
    rintro e w' ⟨rfl, rfl⟩
    rw [HZ.out]
    go_wp2_with (refine wpList_store_new rfl 31 _ _ rfl (secC sec0) _ rfl rfl rfl (by rw [H2.out, HZS.out]) H1.out (secC_one _) ?_)
    refine bodyPost_ret (results_big2 rfl _ _ w.heap.size (secC sec0) _ rfl (range_block hal_new) Try.underlying31 rfl H1.out) rfl ?_
    exact ⟨by rw [← HM.out]; rfl, (Chg.refl _ _).alloc _⟩
  · have he1 : errOf size down n = 1 := by unfold errOf; rw [if_pos (by omega)]
    rw [he1]
    clear he he1
    go_enter Try.func20, Try.ntmps20
    go_wp2_with (first | (refine wpList_alloc_big rfl 31 64 rfl H0.out (fun zs hzs => ?_); have HZS := Lib.hid hzs; clear hzs) | (refine wpList_store_new rfl 31 _ _ rfl (secC sec0) _ rfl rfl rfl (by rw [H2.out, HZS.out]) H1.out (secC_one _) ?_))
    refine bodyPost_ret (results_big2 rfl _ _ w.heap.size (secC sec0) _ rfl (range_block hal_new) Try.underlying31 rfl H1.out) rfl ?_
    exact ⟨rfl, (Chg.refl _ _).alloc _⟩
set_option maxRecDepth 100000 in
theorem read_ok (r : Nat) (F : Nat → Prop) (D : Dsk) (n : Int) (w : World) (h : DiskAt w r F D) (he : errOf D.size D.down n = 0) :
    Calls Try.prog 20 #[.pointer (some ⟨r, 0, none⟩), .int .i64 n] w fun e w' => e = .returned (.tuple #[secV (D.now n), .int .i64 0]) ∧ Chg (fun _ => False) w w' := by
  obtain ⟨nb, kb, wv, esn, esk, cn, ck, h⟩ := h
  obtain ⟨c0, c1, c2, c3, c4, c5, c6⟩ := h.cells
  obtain ⟨hn0, hn1, hd⟩ := errOf_zero he
  have hm : mayR D.size D.down n = 0 := by rw [mayR_lt hn1]; exact he
  have hsl : (secC (D.now n)).length = 64 := by simp [h.ok.2.2.2.2.1 n]
  have hi0 := info_sec0
  have hi1 : (Try.prog.info? 31).map (·.size) = some (secC (D.now n)).length := by rw [hsl]; exact info_sec
  have hb : ∀ z : Array Value, (w.alloc (.cells z 31)).heap[nb]? = some (.map esn cn) := fun z => (hal_old (lt_of_heap h.now)).trans h.now
  have hlk := fun z : Array Value => h.nowIs.look n (hb z)
  have H0 := Lib.hid hi0; have H1 := Lib.hid hi1; have H2 := Lib.hid hsl; have HL := Lib.hid hlk; have HM := Lib.hid hm; have HO := Lib.hid (secC_one (D.now n))
  clear hi0 hi1 hsl hlk hb hm h he
  unfold secV
  generalize secC (D.now n) = cs at *
  go_enter Try.func20, Try.ntmps20
  go_wp2_with (refine wpList_alloc_big rfl 31 64 rfl H0.out (fun zs hzs => ?_))
  have HZS := Lib.hid hzs
  clear hzs
  refine (may_any _ _ D.size D.down _ ?_ ?_).mono ?_
  · rw [World.cell?_alloc_lt _ _ _ c6]; exact c0
  · rw [World.cell?_alloc_lt _ _ _ c6]; exact c4
  rintro e w' ⟨rfl, rfl⟩
  rw [HM.out]
  have hlk := HL.out zs
  go_wp2_with (refine wpList_store_new rfl 31 _ _ rfl cs _ rfl rfl rfl (by rw [H2.out, HZS.out]) H1.out HO.out ?_)
  refine bodyPost_ret (results_big2 rfl _ _ w.heap.size cs _ rfl (range_block hal_new) Try.underlying31 rfl H1.out) rfl ?_
  exact ⟨rfl, (Chg.refl _ _).alloc _⟩
theorem read_any (r : Nat) (F : Nat → Prop) (D : Dsk) (n : Int) (w : World) (h : DiskAt w r F D) :
    Calls Try.prog 20 #[.pointer (some ⟨r, 0, none⟩), .int .i64 n] w fun e w' => e = .returned (.tuple #[secV (D.readR n), .int .i64 (errOf D.size D.down n)]) ∧ Chg (fun _ => False) w w' := by
  by_cases he : errOf D.size D.down n = 0
  · refine (read_ok r F D n w h he).mono ?_
    rintro e w' ⟨rfl, c⟩
    exact ⟨by rw [Dsk.readR, if_pos he, he], c⟩
  · refine (read_err r F D n w h he).mono ?_
    rintro e w' ⟨rfl, c⟩
    exact ⟨by rw [Dsk.readR, if_neg he], c⟩
def Dsk.writeR (D : Dsk) (n : Int) (s : Sec) : Dsk := if errOf D.size D.down n = 0 then D.write n s else D
theorem write_any (r : Nat) (F : Nat → Prop) (D : Dsk) (n : Int) (s : Sec) (w : World) (h : DiskAt w r F D) (hs : s.length = 64) (hlen : D.wait.length < 3000000000000) :
    Calls Try.prog 16 #[.pointer (some ⟨r, 0, none⟩), .int .i64 n, secV s] w fun e w' => e = .returned (.int .i64 (errOf D.size D.down n)) ∧ DiskAt w' r (Ext F w w') (D.writeR n s) ∧ Chg F w w' := by
  by_cases he : errOf D.size D.down n = 0
  · refine (write_ok r F D n s w h hs he hlen).mono ?_
    rintro e w' ⟨rfl, d, c⟩
    exact ⟨by rw [he], by rw [Dsk.writeR, if_pos he]; exact d, c⟩
  · refine (write_err r F D n s w h he).mono ?_
    rintro e w' ⟨rfl, c⟩
    refine ⟨rfl, ?_, c.mono (fun _ h => h.elim)⟩
    rw [Dsk.writeR, if_neg he]
    exact (h.chg c (fun _ _ h => h)).mono (fun k hk _ => .inl hk)

/-! Sync -/
def keepAll (f : Int → Sec) (l : List (Int × Sec)) : Int → Sec := l.foldl (fun g x => upd g x.1 x.2) f
def Dsk.kept1 (D : Dsk) (k : Nat) : Dsk := { D with kept := keepAll D.kept (D.wait.take k) }
def Dsk.sync (D : Dsk) : Dsk := ({ D with kept := keepAll D.kept D.wait, wait := [] } : Dsk).change
theorem take_succ_get {α : Type} {l : List α} {k : Nat} {x : α} (h : l[k]? = some x) : l.take (k + 1) = l.take k ++ [x] := by
  rw [List.take_add_one, h]; rfl
theorem kept1_succ {D : Dsk} {k : Nat} {x : Int × Sec} (h : D.wait[k]? = some x) : D.kept1 (k + 1) = { D.kept1 k with kept := upd (D.kept1 k).kept x.1 x.2 } := by
  unfold Dsk.kept1 keepAll
  rw [take_succ_get h, List.foldl_append]
  rfl
theorem info_wr0 : (Try.prog.info? 94).map (fun i => ((i.zero.getD undef).cells.size, i.zero.isSome)) = some (65, true) := by kernel_rfl
theorem info_wr1 : (Try.prog.info? 94).map (·.size) = some 65 := by kernel_rfl
theorem sync_err (r : Nat) (F : Nat → Prop) (D : Dsk) (w : World) (h : DiskAt w r F D) (hd : D.down = true) :
    Calls Try.prog 17 #[.pointer (some ⟨r, 0, none⟩)] w fun e w' => e = .returned (.int .i64 24) ∧ w = w' := by
  obtain ⟨nb, kb, wv, esn, esk, cn, ck, h⟩ := h
  obtain ⟨c0, c1, c2, c3, c4, c5, c6⟩ := h.cells
  have hm : mayR D.size D.down 0 = 24 := by rw [mayR_zero, hd]; rfl
  have HM := Lib.hid hm
  clear h hd hm
  go_enter Try.func17, Try.ntmps17
  go_wp2_with fail
  refine (may_any _ _ D.size D.down _ c0 c4).mono ?_
  rintro e w' ⟨rfl, rfl⟩
  rw [HM.out]
  go_wp2
  go_ret
  exact ⟨rfl, rfl⟩
set_option maxRecDepth 100000 in
set_option maxHeartbeats 1000000 in
theorem sync_ok (r : Nat) (F : Nat → Prop) (D : Dsk) (w : World) (h : DiskAt w r F D) (hd : D.down = false) (hlen : D.wait.length < 3000000000000) :
    Calls Try.prog 17 #[.pointer (some ⟨r, 0, none⟩)] w fun e w' => e = .returned (.int .i64 0) ∧ DiskAt w' r (Ext F w w') D.sync ∧ Chg F w w' := by
  obtain ⟨nb, kb, wv, esn, esk, cn, ck, h⟩ := h
  obtain ⟨c0, c1, c2, c3, c4, c5, c6⟩ := h.cells
  have hm : mayR D.size D.down 0 = 0 := by rw [mayR_zero, hd]; rfl
  obtain ⟨ao, c, rfl, hao⟩ := ownsRow_form h.row
  have HM := Lib.hid hm; have HH := Lib.hid h; have HA := Lib.hid hao
  clear h hd hm hao
  go_enter Try.func17, Try.ntmps17
  go_wp2_with fail
  refine (may_any _ _ D.size D.down _ c0 c4).mono ?_
  rintro e w' ⟨rfl, rfl⟩
  rw [HM.out]
  go_wp2
  go_loopw [16] (fun i wr => ∃ (k : Nat) (esk' : Array MapEntry) (ck' : Nat), k ≤ D.wait.length ∧ i = .int .i64 k ∧ DiskIn wr r F (D.kept1 k) nb kb (.slice ao D.wait.length c) esn esk' cn ck' ∧ Chg F w wr) (fun i _ => D.wait.length - (intOf i).toNat)
  case atStart => exact ⟨0, esk, ck, Nat.zero_le _, rfl, HH.out, Chg.refl _ _⟩
  case round =>
    obtain ⟨k, esk', ck', hk, rfl, hin, hchg⟩ := hrel
    by_cases hlt : k < D.wait.length
    · obtain ⟨g, rfl⟩ := HA.out (by omega)
      obtain ⟨x, hx⟩ : ∃ x, D.wait[k]? = some x := ⟨D.wait[k], by simp [hlt]⟩
      have hxl : x.2.length = 64 := HH.out.ok.2.2.2.2.2.2 x (List.mem_of_getElem? hx)
      have hl65 : (wrC x).length = 65 := by simp [hxl]
      have hsl : (secC x.2).length = 64 := by simp [hxl]
      have hrow := hin.row
      have hrg : wr.rangeAt g (k * 65) (wrC x) := by
        have := ownsRow_range hrow (k * 65) 65
        rw [show (D.kept1 k).wait = D.wait from rfl, chunk wrC 65 D.wait (fun y hy => by simp [HH.out.ok.2.2.2.2.2.2 y hy]) k x hx] at this
        exact this
      have hi65 : (Try.prog.info? 94).map (·.size) = some (wrC x).length := by rw [hl65]; exact info_wr1
      have hi64 : (Try.prog.info? 31).map (·.size) = some (secC x.2).length := by rw [hsl]; exact info_sec
      have hz0 := info_wr0
      have HIN := Lib.hid hin; have HCH := Lib.hid hchg; have HRG := Lib.hid hrg; have HI65 := Lib.hid hi65; have HI64 := Lib.hid hi64; have HZ0 := Lib.hid hz0; have HX := Lib.hid hx; have HL65 := Lib.hid hl65; have HXL := Lib.hid hxl
      clear hin hchg hrg hi65 hi64 hz0 hx hl65 hsl hrow hxl
      go_wp2_with (first | (refine wpList_load_big rfl 94 _ rfl g (k * 65) rfl (wrC x) _ HRG.out Try.underlying94 rfl HI65.out ?_) | (refine wpList_alloc_big rfl 94 65 rfl HZ0.out (fun zs hzs => ?_); have HZS := Lib.hid hzs; clear hzs) | (refine wpList_store_new rfl 94 _ _ rfl (wrC x) _ rfl rfl rfl (by rw [HL65.out, HZS.out]) HI65.out (wrC_one _) ?_))
      obtain ⟨W1, hW1⟩ : ∃ W1, W1 = wr.alloc (.cells (wrC x).toArray 94) := ⟨_, rfl⟩
      rw [← hW1]
      have q1 : DiskIn W1 r F (D.kept1 k) nb kb (.slice (some ⟨g, 0, none⟩) D.wait.length c) esn esk' cn ck' := by subst hW1; exact HIN.out.alloc _
      have q2 : Chg F w W1 := by subst hW1; exact HCH.out.alloc _
      have q3 : W1.heap[wr.heap.size]? = some (.cells (wrC x).toArray 94 (0, 0)) := by subst hW1; exact hal_new
      have q4 := q1.cells.2.2.1
      have q5 : W1.cell? ⟨wr.heap.size, 0, none⟩ = some (.int .i64 x.1) := cell_of_row W1 _ 0 _ _ _ q3
      have q6 : W1.rangeAt wr.heap.size 1 (secC x.2) := fun j v hj => by
        rw [cell_of_row W1 _ _ _ _ _ q3, Nat.add_comm]; simpa [wrC] using hj
      have hmu := run_mapUpdate (P := Try.prog) (W1.drew) (t := 88) (kt := 3) (et := 31) (d := .int .i64) (k := .int .i64 x.1) (v := .agg (secC x.2).toArray) Try.underlying88 Try.underlying3 (by rfl) q1.kept q1.keptIs.1
      have Q1 := Lib.hid q1; have Q2 := Lib.hid q2; have HMU := Lib.hid hmu
      clear q1 q2 hW1 hmu q3
      refine wp_region_lex (fun w' => w'.cell? ⟨r, 2, none⟩ = some (.map (some kb)) ∧ w'.cell? ⟨wr.heap.size, 0, none⟩ = some (.int .i64 x.1) ∧ w'.rangeAt wr.heap.size 1 (secC x.2)) 8 [8] [0, 1, 2, 3, 4, 5, 6, 7, 8] (by kernel_rfl) (by kernel_rfl) ⟨q4, q5, q6⟩ ?_
      iterate 7
        refine' lex_free (v := _) rfl rfl rfl ?_ (fun _ _ _ h => h) ?_
        rotate_left
        · rintro W ⟨hW1, hW2, hW3⟩
          go_simp
          with_reducible rfl
        simp only [Act.put, List.setIfInBounds_toArray, List.set_cons_zero, List.set_cons_succ]
      refine lex_free (v := .agg (secC x.2).toArray) rfl rfl rfl (fun W hW => exec_load_mid rfl rfl hW.2.2 Try.underlying31 rfl HI64.out) (fun _ _ _ h => h) ?_
      simp only [Act.put, List.setIfInBounds_toArray, List.set_cons_zero, List.set_cons_succ]
      have hmu := HMU.out
      refine lex_op rfl rfl rfl (fun K hK => ?_)
      go_simp
      refine hK _ _ (fun h => absurd rfl h) ?_
      clear hK K
      refine lex_nil ?_
      go_wp2
      go_roundw
      case rel =>
        refine ⟨k + 1, mput esk' ck' (.int .i64 x.1) (secV x.2), mclock esk' ck' (.int .i64 x.1), by omega, by go_num, ?_, Q2.out.drew.setObj (.inl HH.out.fk) _⟩
        rw [kept1_succ HX.out]
        exact Q1.out.drew.setKept x.1 HXL.out
      case measure => simp [intOf]; omega
    · obtain rfl : k = D.wait.length := by omega
      have HIN := Lib.hid hin; have HCH := Lib.hid hchg
      have d3 := hin.cells.2.2.2.1
      have f3 := hin.free 3
      clear hin hchg hlt
      go_wp2_with fail
      have q1 := HIN.out.setNil
      have q2 : Chg F w _ := HCH.out.setCell (p := ⟨r, 3, none⟩) (.inl HH.out.fr) (.slice none 0 0)
      refine (change_any r F _ _ ⟨nb, kb, _, esn, esk', cn, ck', q1⟩).mono ?_
      rintro e w5 ⟨rfl, d5, c5⟩
      have H1 := Lib.hid d5; have H2 := Lib.hid c5; have H3 := Lib.hid q2
      clear d5 c5 q1 q2
      go_wp2
      go_ret
      refine ⟨rfl, ?_, H3.out.trans H2.out (fun _ h => .inl h)⟩
      have : D.sync = ({ D.kept1 D.wait.length with wait := [] } : Dsk).change := by unfold Dsk.sync Dsk.kept1; simp
      rw [this]
      exact H1.out.mono (fun k hk _ => .inl hk)
theorem sync_any (r : Nat) (F : Nat → Prop) (D : Dsk) (w : World) (h : DiskAt w r F D) (hlen : D.wait.length < 3000000000000) :
    Calls Try.prog 17 #[.pointer (some ⟨r, 0, none⟩)] w fun e w' => e = .returned (.int .i64 (if D.down then 24 else 0)) ∧ DiskAt w' r (Ext F w w') (if D.down then D else D.sync) ∧ Chg F w w' := by
  cases hd : D.down with
  | true =>
    refine (sync_err r F D w h hd).mono ?_
    rintro e w' ⟨rfl, rfl⟩
    exact ⟨rfl, h.mono (fun k hk _ => .inl hk), Chg.refl _ _⟩
  | false =>
    refine (sync_ok r F D w h hd hlen).mono ?_
    rintro e w' ⟨rfl, d, c⟩
    exact ⟨rfl, d, c⟩
end Go.Proofs.Ytihpobpkhhkejaa
