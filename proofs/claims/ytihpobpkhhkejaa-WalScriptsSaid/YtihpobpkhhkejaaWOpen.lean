/-
  What the log's Open reads off a disk. Conditions: a disk of bytes stands at the address.
-/
import Derived.Test.YtihpobpkhhkejaaWRecB
import Derived.Test.YtihpobpkhhkejaaLexT
set_option autoImplicit false
namespace Go.Proofs.Ytihpobpkhhkejaa
open Go Go.RowKit

def OpenPost (w : World) (d : Nat) (r : Int × Option (Lg × List (List Int))) (e : Ending) (w' : World) : Prop :=
  match r.2 with
  | none => e = .returned (.tuple #[.pointer none, .slice none 0 0, .int .i64 r.1])
  | some p => ∃ l v F, e = .returned (.tuple #[.pointer (some ⟨l, 0, none⟩), v, .int .i64 r.1]) ∧ LogAt w' l d F p.1 ∧ (∀ k, F k → w.heap.size ≤ k ∧ k < w'.heap.size) ∧ RecsR w' (fun k => k < w.heap.size ∨ F k) v p.2 ∧ CapOk v
theorem RecsR.weaken {Z Z' : Nat → Prop} {w : World} {v : Value} {rs : List (List Int)} (h : RecsR w Z v rs) (hz : ∀ k, k < w.heap.size → Z' k → Z k) : RecsR w Z' v rs := by
  obtain ⟨h2, ao, c, rfl, h3⟩ := h
  refine ⟨h2, ao, c, rfl, fun hp => ?_⟩
  obtain ⟨b, o, rfl, ho, hc⟩ := h3 hp
  refine ⟨b, o, rfl, ⟨ho.1, fun h => ho.2 (hz b ho.1 h)⟩, fun j hj => ?_⟩
  obtain ⟨u, hu, hb⟩ := hc j hj
  exact ⟨u, hu, hb.weaken hz⟩
def Dsk.headTo (D : Dsk) : Nat → Int × Int
  | 0 => (0, 0)
  | k + 1 => pick (D.headTo k) (D.now k)
theorem headTo_two (D : Dsk) : D.headTo 2 = D.head := rfl
theorem pow256_le (n m : Nat) (h : n ≤ m) : (256 : Int) ^ n ≤ 256 ^ m := by
  have h1 := Nat.pow_le_pow_right (n := 256) (by decide) h
  have e : ∀ k : Nat, ((256 ^ k : Nat) : Int) = (256 : Int) ^ k := fun k => by rw [Int.natCast_pow]; rfl
  rw [← e, ← e]
  exact Int.ofNat_le.2 h1
theorem pick_ok {h : Int × Int} {s : Sec} (hs : Bytes s) (h1 : 0 ≤ h.1 ∧ h.1 < 18446744073709551616) (h2 : 0 ≤ h.2 ∧ h.2 < 4294967296) : (0 ≤ (pick h s).1 ∧ (pick h s).1 < 18446744073709551616) ∧ 0 ≤ (pick h s).2 ∧ (pick h s).2 < 4294967296 := by
  unfold pick
  split
  · have a := numOf_le (s.take 8) (fun b hb => hs b (List.mem_of_mem_take hb))
    have b := numOf_le ((s.drop 8).take 4) (fun b hb => hs b (List.mem_of_mem_drop (List.mem_of_mem_take hb)))
    have a1 : (256 : Int) ^ (s.take 8).length ≤ 256 ^ 8 := by
      have : (s.take 8).length ≤ 8 := by rw [List.length_take]; omega
      exact pow256_le _ _ this
    have b1 : (256 : Int) ^ ((s.drop 8).take 4).length ≤ 256 ^ 4 := by
      have : ((s.drop 8).take 4).length ≤ 4 := by rw [List.length_take]; omega
      exact pow256_le _ _ this
    have e8 : (256 : Int) ^ 8 = 18446744073709551616 := by decide
    have e4 : (256 : Int) ^ 4 = 4294967296 := by decide
    exact ⟨⟨a.1, by show numOf _ < _; omega⟩, b.1, by show numOf _ < _; omega⟩
  · exact ⟨h1, h2⟩
theorem headTo_ok (D : Dsk) (hb : ∀ k, Bytes (D.now k)) : ∀ k, (0 ≤ (D.headTo k).1 ∧ (D.headTo k).1 < 18446744073709551616) ∧ 0 ≤ (D.headTo k).2 ∧ (D.headTo k).2 < 4294967296
  | 0 => by simp [Dsk.headTo]
  | k + 1 => pick_ok (hb k) (headTo_ok D hb k).1 (headTo_ok D hb k).2
theorem bytes_len (D : Dsk) (h : ∀ k, (D.now k).length = 64) : ∀ (k : Nat) (a : Int), (D.bytes a k).length = k * 64
  | 0, _ => by simp [Dsk.bytes]
  | k + 1, a => by rw [Dsk.bytes, List.length_append, h, bytes_len D h k]; omega
theorem bytes_snoc (D : Dsk) : ∀ (k : Nat) (a : Int), D.bytes a (k + 1) = D.bytes a k ++ D.now (a + k)
  | 0, a => by simp [Dsk.bytes]
  | k + 1, a => by
    rw [Dsk.bytes, bytes_snoc D k (a + 1), Dsk.bytes, List.append_assoc]
    congr 3
    omega
theorem bytes_by (D : Dsk) (hb : ∀ k, Bytes (D.now k)) : ∀ (k : Nat) (a : Int), Bytes (D.bytes a k)
  | 0, _ => fun b h => by cases h
  | k + 1, a => fun b h => by
    rcases List.mem_append.1 h with h | h
    · exact hb a b h
    · exact bytes_by D hb k (a + 1) b h
def openFin (D : Dsk) (cn ln : Int) : Int × Option (Lg × List (List Int)) :=
  match recsR (D.stream ln.toNat) with
  | none => (6, none)
  | some rs => (0, some ({ cnt := cn, len := ln, st := D.stream ln.toNat, wait := 0 }, rs))
theorem openR_up {D : Dsk} (hs : 3 ≤ D.size) (hd : D.down = false) : openR D = if D.head.2 > (D.size - 2) * 64 then (6, none) else openFin D D.head.1 D.head.2 := by
  unfold openR
  rw [if_neg (by omega), if_neg (by rw [hd]; decide)]
  rfl
theorem upTo_le (n k : Nat) (h : n ≤ k * 64) : upTo n ≤ k := by unfold upTo; omega
set_option maxRecDepth 100000 in
theorem open_nil (w : World) : Calls Try.prog 31 #[.pointer none] w fun e w' => e = .returned (.tuple #[.pointer none, .slice none 0 0, .int .i64 2]) ∧ w = w' := by
  go_enter Try.func31, Try.ntmps31
  go_wp2
  go_ret3
  exact ⟨rfl, rfl⟩
set_option maxRecDepth 100000 in
theorem open_small (d : Nat) (A : Nat → Prop) (D : Dsk) (w : World) (hd : DiskAt w d A D) (hs : D.size < 3) :
    Calls Try.prog 31 #[.pointer (some ⟨d, 0, none⟩)] w fun e w' => e = .returned (.tuple #[.pointer none, .slice none 0 0, .int .i64 1]) ∧ w = w' := by
  have HD := Lib.hid hd
  clear hd
  go_enter Try.func31, Try.ntmps31
  go_wp2_with fail
  refine (size_any d A D w HD.out).mono ?_
  rintro e w1 ⟨rfl, rfl⟩
  go_wp2
  go_ret3
  exact ⟨rfl, rfl⟩
set_option maxRecDepth 100000 in
theorem open_down (d : Nat) (A : Nat → Prop) (D : Dsk) (w : World) (hd : DiskAt w d A D) (hs : 3 ≤ D.size) (hdn : D.down = true) :
    Calls Try.prog 31 #[.pointer (some ⟨d, 0, none⟩)] w fun e w' => e = .returned (.tuple #[.pointer none, .slice none 0 0, .int .i64 24]) ∧ Chg (fun _ => False) w w' := by
  have hd2 := hd.mono (G := fun k => A k ∧ k < w.heap.size) (fun k hk hl => ⟨hk, hl⟩)
  have HD := Lib.hid hd2
  have he : errOf D.size D.down 0 = 24 := by rw [hdn]; unfold errOf; rw [if_neg (by omega)]; rfl
  have hr : D.readR 0 = sec0 := by unfold Dsk.readR; rw [he, if_neg (by decide)]
  have HE := Lib.hid he; have HRR := Lib.hid hr
  clear hd hd2 he hr
  go_enter Try.func31, Try.ntmps31
  go_wp2_with fail
  refine (size_any d _ D w HD.out).mono ?_
  rintro e w1 ⟨rfl, rfl⟩
  go_wp2
  go_loopw [25] (fun i wr => i = .int .i64 0 ∧ wr = w.alloc (.cells #[.pointer (some ⟨d, 0, none⟩), .int .u64 0, .int .u64 0, .slice none 0 0, .int .i64 0] 103)) (fun _ _ => 0)
  case atStart => exact ⟨rfl, rfl⟩
  case round =>
    obtain ⟨rfl, rfl⟩ := hrel
    go_wp2_with fail
    refine (read_any d _ D 0 _ (HD.out.chg ((Chg.refl (fun _ => False) w).alloc _) (fun _ _ h => h))).mono ?_
    rintro e w2 ⟨rfl, x2⟩
    rw [HE.out, HRR.out]
    unfold secV
    have X2 := Lib.hid (((Chg.refl (fun _ => False) w).alloc _).trans x2 (fun _ h => .inl h))
    clear x2
    have HI := Lib.hid (info_secC sec0_len)
    go_wp2_with (first | (refine wpList_alloc_sec rfl rfl ?_) | (refine wpList_store_new rfl 31 _ _ rfl (secC sec0) _ rfl rfl rfl (by simp) HI.out (secC_one _) ?_))
    go_ret3
    exact ⟨rfl, X2.out.alloc _⟩
end Go.Proofs.Ytihpobpkhhkejaa
