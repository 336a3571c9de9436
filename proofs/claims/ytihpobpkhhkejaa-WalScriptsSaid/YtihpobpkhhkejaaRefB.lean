/-
  What the document's disk's New and Read do. No condition beyond each lemma's own.
-/
import Derived.Test.YtihpobpkhhkejaaRefA
import Derived.OwnWalk
set_option autoImplicit false
namespace Go.Proofs.Ytihpobpkhhkejaa
open Go Go.RowKit

theorem made_zeros (m : Nat) : (madeCells (secC sec0).toArray m).toList = List.replicate m (.int .u8 0) := by
  rw [List.eq_replicate_iff]
  refine ⟨by simp [madeCells], fun b hb => ?_⟩
  simp only [madeCells, Array.toList_map, List.mem_map] at hb
  obtain ⟨i, _, rfl⟩ := hb
  have hlt : i % (secC sec0).toArray.size < (secC sec0).toArray.size := Nat.mod_lt _ (by simp [sec0])
  rw [getElem!_pos (secC sec0).toArray _ hlt]
  have hall : ∀ v ∈ secC sec0, v = .int .u8 0 := fun v hv => by
    simp only [secC, sec0, List.map_replicate] at hv
    exact List.eq_of_mem_replicate hv
  exact hall _ (List.mem_toArray.1 (Array.getElem_mem hlt))
theorem kept_zeros (N : Nat) : ((List.range N).flatMap fun (_ : Nat) => secC sec0) = List.replicate (N * 64) (.int .u8 0) := by
  rw [List.eq_replicate_iff]
  refine ⟨by rw [flatMap_len _ 64 _ (fun _ _ => by simp [sec0])]; simp, fun b hb => ?_⟩
  obtain ⟨_, _, h⟩ := List.mem_flatMap.1 hb
  simp only [secC, sec0, List.map_replicate] at h
  exact List.eq_of_mem_replicate h
theorem sec_info : ∃ i z, Try.prog.info? 31 = some i ∧ i.zero = some z ∧ i.size = 64 ∧ i.bytes = 64 ∧ z.cells = (secC sec0).toArray := by
  have h : (Try.prog.info? 31).map (fun i => (i.size, i.bytes, i.zero.map (·.cells.toList))) = some (64, 64, some (secC sec0)) := by kernel_rfl
  obtain ⟨i, hi, hzz⟩ := Option.map_eq_some_iff.1 h
  simp only [Prod.mk.injEq] at hzz
  obtain ⟨z, hz, hzc⟩ := Option.map_eq_some_iff.1 hzz.2.2
  exact ⟨i, z, hi, hz, hzz.1, hzz.2.1, by rw [← hzc]⟩
theorem make_secs (c : Int) (h0 : 0 ≤ c) (h1 : c ≤ 65536) (w : World) : (Instr.makeSlice 59 (.int .i64 c) (.int .i64 c)).run Try.prog w = .ok (.slice (some ⟨w.heap.size, 0, none⟩) c.toNat c.toNat) (w.alloc (.cells (madeCells (secC sec0).toArray (c.toNat * 64)) 31)) := by
  obtain ⟨i, z, hi, hz, hs, hb, hzc⟩ := sec_info
  have := run_make (P := Try.prog) w 59 31 i z Try.underlying59 hi hz .i64 .i64 c c h0 (Int.le_refl _) (by rw [hb]; omega) (by omega)
  rw [hzc, hs] at this
  exact this
theorem new_ref (n : Int) (w : World) : RefIn ((w.alloc (.cells (madeCells (secC sec0).toArray ((szOf n).toNat * 64)) 31)).alloc (.cells #[.int .i64 (szOf n), .slice (some ⟨w.heap.size, 0, none⟩) (szOf n).toNat (szOf n).toNat, .slice none 0 0, .bool false, .int .i64 (-1)] 62)) (w.heap.size + 1) (fun k => w.heap.size ≤ k) (Dsk.new n) (.slice (some ⟨w.heap.size, 0, none⟩) (szOf n).toNat (szOf n).toNat) (.slice none 0 0) := by
  have hz : 0 ≤ szOf n ∧ szOf n ≤ 65536 := by unfold szOf; split <;> (try split) <;> omega
  have hk : keptC (Dsk.new n) = List.replicate ((szOf n).toNat * 64) (.int .u8 0) := kept_zeros _
  refine ⟨?_, ?_, ?_, by show _ ≤ _; omega, fun g hg => ?_, fun g hg => ?_, (new_disk n w).ok, rfl, fun x hx => by cases hx⟩
  · have e : (w.alloc (.cells (madeCells (secC sec0).toArray ((szOf n).toNat * 64)) 31)).heap.size = w.heap.size + 1 := by simp
    rw [← e]; exact hal_new
  · refine ⟨by rw [hk]; simp [Dsk.new], .inr ⟨w.heap.size, (szOf n).toNat, _, rfl, Nat.zero_le _, (hal_old (by simp)).trans hal_new, Nat.le_refl _, by unfold maxLen; omega, by simp [madeCells], ?_⟩⟩
    rw [hk, made_zeros]
    show List.take ((szOf n).toNat * 64) _ = _
    simp
  · exact ⟨rfl, .inl ⟨rfl, rfl⟩⟩
  · have : w.heap.size = g := by simpa [Value.ownBlock] using hg
    show _ ≤ _; omega
  · simp [Value.ownBlock] at hg
theorem rnew_any (n : Int) (w : World) : Calls Try.prog 25 #[.int .i64 n] w fun e w' => ∃ r, e = .returned (.pointer (some ⟨r, 0, none⟩)) ∧ RefAt w' r (Ext (fun _ => False) w w') (Dsk.new n) ∧ Chg (fun _ => False) w w' := by
  have hn := new_ref n w
  have HN := Lib.hid hn
  clear hn
  have fin : ∀ z : Int, z = szOf n → ∀ r : Nat, r = w.heap.size + 1 → ∃ r' : Nat, Ending.returned (.pointer (some ⟨r, 0, none⟩)) = .returned (.pointer (some ⟨r', 0, none⟩)) ∧
      RefAt ((w.alloc (.cells (madeCells (secC sec0).toArray (z.toNat * 64)) 31)).alloc (.cells #[.int .i64 z, .slice (some ⟨w.heap.size, 0, none⟩) z.toNat z.toNat, .slice none 0 0, .bool false, .int .i64 (-1)] 62)) r' (Ext (fun _ => False) w ((w.alloc (.cells (madeCells (secC sec0).toArray (z.toNat * 64)) 31)).alloc (.cells #[.int .i64 z, .slice (some ⟨w.heap.size, 0, none⟩) z.toNat z.toNat, .slice none 0 0, .bool false, .int .i64 (-1)] 62))) (Dsk.new n) ∧
      Chg (fun _ => False) w ((w.alloc (.cells (madeCells (secC sec0).toArray (z.toNat * 64)) 31)).alloc (.cells #[.int .i64 z, .slice (some ⟨w.heap.size, 0, none⟩) z.toNat z.toNat, .slice none 0 0, .bool false, .int .i64 (-1)] 62)) := by
    intro z hz r hr
    subst hz; subst hr
    exact ⟨_, rfl, ⟨_, _, HN.out.mono (fun k hk hl => .inr ⟨hk, hl⟩)⟩, ((Chg.refl _ w).alloc _).alloc _⟩
  have HF := Lib.hid fin
  clear fin
  generalize hcs : (secC sec0).toArray = cs at *
  have HCS := Lib.hid hcs
  by_cases h1 : n < 0
  · have hs : (0 : Int) = szOf n := by unfold szOf; rw [if_pos h1]
    have HS := Lib.hid hs
    have hmk := fun w => make_secs 0 (by decide) (by decide) w
    rw [hcs] at hmk
    clear hs hcs
    have HX := HF.out _ HS.out _ rfl
    have HFF := Lib.hid HX
    clear HX HF
    go_enter Try.func25, Try.ntmps25
    go_wp2
    go_ret
    exact HFF.out
  · by_cases h2 : n > 65536
    · have hs : (65536 : Int) = szOf n := by unfold szOf; rw [if_neg h1, if_pos h2]
      have HS := Lib.hid hs
      have hmk := fun w => make_secs 65536 (by decide) (by decide) w
      rw [hcs] at hmk
      clear hs hcs
      go_enter Try.func25, Try.ntmps25
      go_wp2
      go_ret
      exact HF.out _ HS.out _ rfl
    · have hs : n = szOf n := by unfold szOf; rw [if_neg h1, if_neg h2]
      have HS := Lib.hid hs
      have hmk := fun w => make_secs n (by omega) (by omega) w
      rw [hcs] at hmk
      clear hs hcs
      go_enter Try.func25, Try.ntmps25
      go_wp2
      go_ret
      exact HF.out _ HS.out _ rfl
end Go.Proofs.Ytihpobpkhhkejaa
