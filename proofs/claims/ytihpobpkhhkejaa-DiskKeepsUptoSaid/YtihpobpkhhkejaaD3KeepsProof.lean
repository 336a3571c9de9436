/-
  DiskKeeps, where what it reads is of bulk at most 1048576: the law returns true, and its arguments read as before.
-/
import Derived.Test.YtihpobpkhhkejaaRow
import Derived.Test.YtihpobpkhhkejaaD3KeepsWalk
import Derived.JoinedCond
set_option autoImplicit false
namespace Go.Proofs.Ytihpobpkhhkejaa
open Go.ChangeShapes Go.WideShapes Go.ChangeAt Go.RowKit Go.Deep

theorem bulk_one {H : Type} (d : DataW H) : 1 ≤ Rows.uptoBulk d := by
  cases d with
  | lit l => cases l <;> simp [Rows.uptoBulk]
  | nil => simp [Rows.uptoBulk]
  | ptr d => simp [Rows.uptoBulk]
  | slice elems spare => simp [Rows.uptoBulk]
  | agg parts => simp [Rows.uptoBulk]
  | iface t d => simp [Rows.uptoBulk]
  | map entries => simp [Rows.uptoBulk]
  | held h => simp [Rows.uptoBulk]
theorem bulk_len {H : Type} (l : List (DataW H)) : l.length ≤ Rows.uptoBulkAll l := by
  induction l with
  | nil => simp [Rows.uptoBulkAll]
  | cons x r ih => have := bulk_one x; simp only [Rows.uptoBulkAll, List.length_cons]; omega
/-- a slice's length is at most its reading's bulk -/
theorem slice_bulk {H : Type} {enc : TypeId × Value → H} {w : World} {base : Nat} {spare : Nat → Bool} {held : Bool} {t e : TypeId} {ao : Option Addr} {len cap : Nat} (ht : Try.prog.underlying t = some (.slice e))
    {x : DataW H × List MemPlace} {fuel : Nat} (h : DataW.trod enc Try.prog w base spare held fuel t (Value.slice ao len cap).cells.toList = some x) : len ≤ Rows.uptoBulk x.1 := by
  rcases open_slice ht h with ⟨hcs, _⟩ | ⟨a, l, c, m, n, D, Pl, hcs, _, hl, hm, hmm, rfl, hc⟩
  · simp [Value.cells] at hcs
    omega
  · simp [Value.cells] at hcs
    obtain ⟨rfl, rfl, rfl⟩ := hcs
    have := bulk_len ((List.range len).map D)
    simp only [List.length_map, List.length_range] at this
    simp only [Rows.uptoBulk]
    omega
set_option maxRecDepth 100000 in
theorem keeps_lifted (os : Os) (started : os.Started) (H : Type) (enc : TypeId × Value → H) (F : Stop.Interp) :
    ReturnsInHanded {} Try.checked os 3 .any ((Rows.OpenSpec.upto Rows.diskKeepsSpec).pre6 enc Try.prog Try.f3 Rows.diskKeepsUptoRow.domain false) (((Rows.OpenSpec.upto Rows.diskKeepsSpec).at F).post enc Try.prog Try.f3 false true false false) := by
  refine returnsInHanded_of_cond (C := Try.checked) (s := Rows.OpenSpec.upto Rows.diskKeepsSpec) (k := Rows.uptoSmall) rfl own started (by kernel_rfl) Try.func3
    (OpenSpec.witness (enc := enc) (C := Try.checked) (s := Rows.OpenSpec.upto Rows.diskKeepsSpec) (k := Rows.uptoSmall) rfl false ⟨#[], #[.slice none 0 0, .slice none 0 0, .slice none 0 0], []⟩ 8 (by kernel_rfl) (by kernel_rfl) (by kernel_rfl)
      (x := ([.nil, .nil, .nil], [], [])) (by kernel_rfl) rfl (by kernel_rfl)) ?_
  intro W base args ds gs before hval0 hW _ hk _
  have hval : ∀ (j : Nat) t v, Try.f3.params[j]? = some t → args[j]? = some v → Value.okWide Try.prog W .any base t v := hval0
  have hW' := hW
  obtain ⟨p, q, hA0, hV, rfl, hfz, hnd⟩ := hW
  have hA : DataW.TrodAll enc Try.prog W 0 (fun _ => true) true Try.f3.params.toList args.toList ds p := hA0
  rw [Try.params3] at hA hval
  obtain ⟨v0, vs0, d0, ds0, p0, q0, hargs, rfl, rfl, h0, r0⟩ := trodAll_cons hA
  obtain ⟨v1, vs1, d1, ds1, p1, q1, rfl, rfl, rfl, h1, r1⟩ := trodAll_cons r0
  obtain ⟨v2, vs2, d2, ds2, p2, q2, rfl, rfl, rfl, h2, r2⟩ := trodAll_cons r1
  obtain ⟨rfl, rfl, rfl⟩ := trodAll_nil r2
  obtain rfl : args = #[v0, v1, v2] := by cases args; simp_all
  obtain ⟨rfl, rfl⟩ := trodVars_none hV
  obtain ⟨a0, l0, c0, rfl⟩ := okWide_slice Try.underlying22 (hval 0 22 v0 rfl rfl)
  obtain ⟨a1, l1, c1, rfl⟩ := okWide_slice Try.underlying22 (hval 1 22 v1 rfl rfl)
  obtain ⟨a2, l2, c2, rfl⟩ := okWide_slice Try.underlying23 (hval 2 23 v2 rfl rfl)
  have k0 := h0
  have k1 := h1
  have k2 := h2
  have lt0 : ∀ x ∈ p0, x.block < W.heap.size := by obtain ⟨m, hm⟩ := k0; exact DataW.trod_lt m _ _ _ hm
  have lt1 : ∀ x ∈ p1, x.block < W.heap.size := by obtain ⟨m, hm⟩ := k1; exact DataW.trod_lt m _ _ _ hm
  have lt2 : ∀ x ∈ p2, x.block < W.heap.size := by obtain ⟨m, hm⟩ := k2; exact DataW.trod_lt m _ _ _ hm
  have hb : Rows.uptoBulkAll ([d0, d1, d2] ++ ([] : List (DataW H))) ≤ 1048576 := of_decide_eq_true hk
  simp only [List.cons_append, List.nil_append, Rows.uptoBulkAll] at hb
  obtain ⟨f0, e0⟩ := h0
  obtain ⟨f1, e1⟩ := h1
  obtain ⟨f2, e2⟩ := h2
  have s0 : l0 ≤ Rows.uptoBulk d0 := slice_bulk Try.underlying22 e0
  have s1 : l1 ≤ Rows.uptoBulk d1 := slice_bulk Try.underlying22 e1
  obtain ⟨V0, _, rd0, ok0⟩ := slice1_rd Try.underlying22 (by kernel_rfl) (p := fun V => V = .int .u8 (intOf V) ∧ 0 ≤ intOf V ∧ intOf V ≤ 255) (fun V n y h => u8_of Try.underlying5 h) e0
  obtain ⟨V1, _, rd1, ok1⟩ := slice1_rd Try.underlying22 (by kernel_rfl) (p := fun V => V = .int .u8 (intOf V) ∧ 0 ≤ intOf V ∧ intOf V ≤ 255) (fun V n y h => u8_of Try.underlying5 h) e1
  obtain ⟨V2, m2, rd2, ok2⟩ := slice1_rd Try.underlying23 (by kernel_rfl) (p := fun V => ∃ b, V = .bool b) (fun V n y h => bool_of Try.underlying4 h) e2
  obtain ⟨kb, hkb⟩ := choose_lt ok2
  have g0 : SlRd W a0 l0 1 (fun i _ => .int .u8 (intOf (V0 i))) := fun hp => by
    obtain ⟨b, o, e, hl, hc⟩ := rd0 hp
    exact ⟨b, o, e, hl, fun i j hi hj => by rw [hc i j hi hj]; congr 1; exact (ok0 i hi).1⟩
  have g1 : SlRd W a1 l1 1 (fun i _ => .int .u8 (intOf (V1 i))) := fun hp => by
    obtain ⟨b, o, e, hl, hc⟩ := rd1 hp
    exact ⟨b, o, e, hl, fun i j hi hj => by rw [hc i j hi hj]; congr 1; exact (ok1 i hi).1⟩
  have g2 : SlRd W a2 l2 1 (fun i _ => .bool (kb i)) := fun hp => by
    obtain ⟨b, o, e, hl, hc⟩ := rd2 hp
    exact ⟨b, o, e, hl, fun i j hi hj => by rw [hc i j hi hj]; congr 1; exact hkb i hi⟩
  clear hA0 hval0
  refine (keeps_walk a0 a1 a2 l0 l1 l2 c0 c1 c2 (fun i => intOf (V0 i)) (fun i => intOf (V1 i)) kb W (by omega) (by omega) m2 g0 g1 g2 (fun i hi => (ok1 i hi).2)).mono fun e W' ⟨he, bel⟩ => ?_
  subst he
  exact ⟨_, rfl, _, _, _, [], _, [], hW', trodAll_mk1 (shut_bool Try.underlying4 _), (trodAll_cons_mk (Below.trod laidOut (by kernel_rfl) (of_decide_eq_true (by kernel_rfl)) k0 bel lt0) (trodAll_cons_mk (Below.trod laidOut (by kernel_rfl) (of_decide_eq_true (by kernel_rfl)) k1 bel lt1) (trodAll_cons_mk (Below.trod laidOut (by kernel_rfl) (of_decide_eq_true (by kernel_rfl)) k2 bel lt2) trodAll_mk0))), rfl, bel.frame _, fun h => by cases h⟩
theorem diskKeeps_proved : Rows.DiskKeepsUptoSaid :=
  OpenClaim.holds_of_cond 3 Try.f3 rfl rfl rfl rfl rfl rfl rfl ⟨rfl, rfl, rfl, rfl, rfl⟩ rfl rfl rfl rfl rfl (by kernel_rfl) Try.func3 (by kernel_rfl)
    (of_decide_eq_true (by kernel_rfl)) (by unfold Func.isWrapper; first | (rw [if_pos (by decide +kernel)]; kernel_rfl) | (rw [if_neg (by decide +kernel)]; exact ⟨rfl, rfl⟩))
    (fun os started H enc _ F => keeps_lifted os started H enc F)
#print axioms diskKeeps_proved
end Go.Proofs.Ytihpobpkhhkejaa
