/-
  A sector that is made and filled by copy; a slice that is cut. No condition beyond each lemma's own.
-/
import Derived.Test.YtihpobpkhhkejaaWApp
import Derived.Laws.CopyRow
import Derived.Laws.IdiomCopy
set_option autoImplicit false
namespace Go.Proofs.Ytihpobpkhhkejaa
open Go Go.RowKit

theorem wp_alloc_sec {o : Oper} {a : Act} {w : World} {K : Act → World → Prop} {Q : Exit → Act → World → Prop} (ho : o.op = .alloc 31) (h : K (a.put o.dst (.pointer (some ⟨w.heap.size, 0, none⟩))) (w.alloc (.cells (secC sec0).toArray 31))) : o.wp Try.prog a w K Q := by
  unfold Oper.wp execOp
  simp only [ho]
  have hz := zero_sec w
  simp only [Instr.alloc, Sem.run_bind, hz, Result.andThen_ok, Sem.run_pure]
  simp [newVar, newRow, secV]
  exact h
theorem wpList_alloc_sec {ops : Array Oper} {rest : List Oper} {o : Oper} {a : Act} {w : World} {Q : Exit → Act → World → Prop} (hg : o.guard = none) (ho : o.op = .alloc 31)
    (h : wpList Try.prog ops Q rest (a.put o.dst (.pointer (some ⟨w.heap.size, 0, none⟩))) (w.alloc (.cells (secC sec0).toArray 31))) : wpList Try.prog ops Q (o :: rest) a w :=
  wpList_plain hg fun _ hK => wp_alloc_sec ho (hK _ _ h)
theorem u8_size1 : (Try.prog.info? 5).map (·.size) = some 1 := by kernel_rfl
theorem pad_cells (cs : List Int) : ((secC sec0).toArray.toList.take 0 ++ cs.map (Value.int .u8) ++ (secC sec0).toArray.toList.drop (0 + (cs.map (Value.int .u8)).length)) = secC (padTo cs) := by
  have e : secC sec0 = List.replicate 64 (Value.int .u8 0) := by unfold secC sec0; rw [List.map_replicate]
  rw [e]
  unfold secC padTo
  rw [List.toList_toArray, List.take_zero, List.nil_append, Nat.zero_add, List.length_map, List.drop_replicate, List.map_append, List.map_replicate]
theorem wp_copy_sec {o : Oper} {a : Act} {w : World} {K : Act → World → Prop} {Q : Exit → Act → World → Prop} (d s : Operand) (ho : o.op = .call { callee := .builtin .copy, args := #[d, s], argTypes := #[22, 22] })
    (g : Nat) (dc : Nat) (hd : a.eval d = .slice (some ⟨g, 0, none⟩) 64 dc) (hg : w.heap[g]? = some (.cells (secC sec0).toArray 31 (0, 0))) (ao : Option Addr) (n c : Nat) (hs : a.eval s = .slice ao n c) (cs : List Int) (hn : cs.length = Nat.min n 64)
    (hpos : ao = none → cs.length = 0) (hsrc : ∀ ad, ao = some ad → ∀ j, (hj : j < cs.length) → w.cell? (ad.add j) = some (.int .u8 cs[j]))
    (k : ∀ w', w'.heap[g]? = some (.cells (secC (padTo cs)).toArray 31 (0, 0)) → Chg (fun k => k = g) w w' → K (a.put o.dst (goInt cs.length)) w') : o.wp Try.prog a w K Q := by
  have hle : cs.length ≤ 64 := by rw [hn]; exact Nat.min_le_right _ _
  have hlen : (cs.map (Value.int .u8)).length = cs.length := by simp
  cases ao with
  | none =>
    have h0 := hpos rfl
    obtain rfl : cs = [] := List.eq_nil_of_length_eq_zero h0
    have hrun := run_copy_none (P := Try.prog) w 22 22 o.type 5 (some ⟨g, 0, none⟩) none 64 dc n c Try.underlying22 u8_size1 (by simpa using hn.symm)
    unfold Oper.wp
    simp [execOp, ho, resolve, invoke, builtin, hd, hs, hrun, Result.andThen]
    exact k w (by simpa [padTo, sec0] using hg) (Chg.refl _ _)
  | some ad =>
    have hrun := run_copy_row Try.prog w 22 22 o.type 5 g 0 64 dc ad n c (secC sec0).toArray 31 (cs.map (Value.int .u8)) Try.underlying22 u8_size1 hg (by rw [hlen]; exact hn)
      (fun j u hu => by
        rw [List.getElem?_map] at hu
        obtain ⟨y, hy, rfl⟩ := Option.map_eq_some_iff.1 hu
        obtain ⟨hj, rfl⟩ := List.getElem?_eq_some_iff.1 hy
        exact hsrc ad rfl j hj) (by simp [sec0]; omega) (by intro u hu; obtain ⟨y, _, rfl⟩ := List.mem_map.1 hu; rfl)
    rw [pad_cells cs, hlen] at hrun
    unfold Oper.wp
    simp [execOp, ho, resolve, invoke, builtin, hd, hs, hrun, Result.andThen]
    refine k _ (setRow_heap w g _ _ _ _ hg) ⟨rfl, rfl, rfl, by simp [World.setRow], fun x hx hne => setRow_other w g x _ hne⟩
/-- the first so many bytes -/
theorem Byts.take {w : World} {lo n cap : Nat} {ao : Option Addr} {xs : List Int} (h : Byts w lo (.slice ao n cap) xs) (m : Nat) (hm : m ≤ xs.length) : Byts w lo (.slice ao m cap) (xs.take m) := by
  have hl := h.lo
  have hn := h.get.1
  rcases h.row.2 with ⟨he, hz⟩ | ⟨g, cap', cur, he, hb, hg, r1, r2, r3, r4⟩
  · simp at he
    obtain ⟨rfl, h2, rfl⟩ := he
    have hm0 : m = 0 := by omega
    subst hm0
    rw [List.take_zero]
    exact Byts.nil _ _
  · simp only [Value.slice.injEq] at he
    obtain ⟨rfl, h2, rfl⟩ := he
    refine ⟨⟨?_, .inr ⟨g, cap, cur, ?_, hb, hg, ?_, r2, r3, ?_⟩⟩, fun k hk => hl k hk⟩
    · simp
    · rw [List.length_take, Nat.min_eq_left hm]
    · rw [List.length_take]; omega
    · rw [List.length_take, Nat.min_eq_left hm]
      have : cur.toList.take (m * 1) = (cur.toList.take (xs.length * 1)).take (m * 1) := by rw [List.take_take]; congr 1; omega
      rw [this, r4, List.map_take, Nat.mul_one]
theorem Byts.capLe {w : World} {lo n cap : Nat} {ao : Option Addr} {xs : List Int} (h : Byts w lo (.slice ao n cap) xs) : n ≤ cap ∧ cap ≤ maxLen ∧ (ao = none → cap = 0) := by
  rcases h.row.2 with ⟨he, hz⟩ | ⟨g, cap', cur, he, hb, hg, r1, r2, r3, r4⟩
  · simp at he
    obtain ⟨rfl, rfl, rfl⟩ := he
    simp
  · simp only [Value.slice.injEq] at he
    obtain ⟨rfl, rfl, rfl⟩ := he
    exact ⟨r1, r2, fun h => by cases h⟩
end Go.Proofs.Ytihpobpkhhkejaa
