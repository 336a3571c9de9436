/-
  The document's own example: it answers true. No condition.
-/
import Derived.Test.YtpiijcjbphpffaaCRows
set_option autoImplicit false
namespace Go.Proofs.Ytpiijcjbphpffaa
open Go Go.RowKit

def tabA : Tab := ⟨⟨#[116]⟩, [⟨⟨#[105, 100]⟩, 1, true, true⟩, ⟨⟨#[97]⟩, 3, false, false⟩]⟩
def catA : Cat := ⟨[tabA], []⟩
def catB : Cat := ⟨[tabA], [⟨⟨#[105]⟩, ⟨#[116]⟩, 1, true⟩]⟩
theorem awA1 : Cat.empty.addTR tabA = 0 := by decide
theorem awA2 : Cat.empty.addT tabA = catA := by unfold Cat.addT; rw [awA1, if_pos rfl]; rfl
theorem awB0 : idxOf (colsOf catA.T ⟨#[116]⟩) ⟨#[97]⟩ = 1 := by decide
theorem awM0 : catA.made ⟨#[116]⟩ = [] := by unfold Cat.made byName; simp [catA]
theorem awB1 : catA.addIR ⟨#[105]⟩ ⟨#[116]⟩ ⟨#[97]⟩ = 0 := by
  unfold Cat.addIR
  rw [show nameB ⟨#[105]⟩ = true by decide, show ((ifind catA.I ⟨#[105]⟩).isSome || decide (idxOf (colsOf catA.T ⟨#[116]⟩) ⟨#[97]⟩ < 0)) = false by decide]
  have : (catA.indexes ⟨#[116]⟩).length = 1 := by
    unfold Cat.indexes
    rw [awM0, List.append_nil]
    decide
  rw [this]
  rfl
theorem awB2 : catA.addI ⟨#[105]⟩ ⟨#[116]⟩ ⟨#[97]⟩ true = catB := by unfold Cat.addI; rw [awB1, if_pos rfl, awB0]; rfl
theorem awC1 : catB.made ⟨#[116]⟩ = [⟨⟨#[105]⟩, ⟨#[116]⟩, 1, true⟩] := by
  unfold Cat.made byName
  rw [show (catB.I.filter fun x => x.tab == ⟨#[116]⟩) = [⟨⟨#[105]⟩, ⟨#[116]⟩, 1, true⟩] from rfl, List.mergeSort_singleton]
theorem awC2 : catB.indexes ⟨#[116]⟩ = [⟨⟨#[116, 46, 105, 100]⟩, ⟨#[116]⟩, 0, false⟩, ⟨⟨#[105]⟩, ⟨#[116]⟩, 1, true⟩] := by
  unfold Cat.indexes
  rw [awC1]
  rfl
theorem awC3 : catB.rows.length = 2 := by
  unfold Cat.rows
  have : catB.tables = [tabA] := by unfold Cat.tables byNameT; exact List.mergeSort_singleton _
  rw [this]
  have h : catB.made tabA.name = [⟨⟨#[105]⟩, ⟨#[116]⟩, 1, true⟩] := awC1
  simp [h]
set_option maxRecDepth 100000 in
set_option maxHeartbeats 2000000 in
theorem awake_any (w : World) : Calls Try.prog 8 #[] w fun e w' => e = .returned (.bool true) ∧ Chg (fun _ => False) w w' := by
  go_enter Try.func8, Try.ntmps8
  go_wp2_with fail
  refine (cnew_any w).mono ?_
  rintro e w1 ⟨r, rfl, h1, x1⟩
  have hb : CatAt w1 r (fun k => w.heap.size ≤ k) Cat.empty := h1.mono (fun k hk _ => by rcases hk with h | h; exact h.elim; exact h.1)
  have H1 := Lib.hid hb; have X1 := Lib.hid x1
  clear h1 x1 hb
  go_wp2_with fail
  have hcs : ColsAt (w1.alloc (.cells (colCells tabA.cols).toArray 30)) (fun k => w1.heap.size ≤ k) (.slice (some ⟨w1.heap.size, 0, none⟩) 2 2) tabA.cols :=
    ⟨_, 2, rfl, fun _ => ⟨w1.heap.size, 0, rfl, by simp, Nat.le_refl _, range_block hal_new⟩⟩
  refine (addT_any r (fun k => w.heap.size ≤ k) (fun k => w1.heap.size ≤ k) Cat.empty tabA _ _ (H1.out.quiet ((Chg.refl _ _).alloc _)) hcs (by decide) (by decide) (by decide)).mono ?_
  rw [awA1, awA2]
  rintro e w2 ⟨rfl, h2, x2⟩
  have X2 := Lib.hid (((X1.out.alloc (.cells (colCells tabA.cols).toArray 30)).mono (G := fun k => w.heap.size ≤ k) (fun _ h => h.elim)).trans x2 (fun k h => .inl h))
  have hb : CatAt w2 r (fun k => w.heap.size ≤ k) catA := h2.mono (fun k hk _ => by
    rcases hk with h | h
    · exact h
    · have := X1.out.size; have := h.1; simp at this; omega)
  have H2 := Lib.hid hb
  clear h2 x2 hb hcs
  go_wp2_with fail
  refine (addI_any r (fun k => w.heap.size ≤ k) catA ⟨#[105]⟩ ⟨#[116]⟩ ⟨#[97]⟩ true w2 H2.out (by decide)).mono ?_
  rw [awB1, awB2]
  rintro e w3 ⟨rfl, h3, x3⟩
  have X3 := Lib.hid (X2.out.trans x3 (fun k h => .inl h))
  have H3 := Lib.hid h3
  clear h3 x3
  go_wp2_with fail
  refine (indexes_any r (fun k => w.heap.size ≤ k) catB ⟨#[116]⟩ w3 H3.out).mono ?_
  rw [awC2]
  rintro e w4 ⟨_, rfl, ⟨ao, cap, rfl, hp⟩, x4⟩
  obtain ⟨b, o, rfl, hbl, hf, hr⟩ := hp (by decide)
  have q0 : w4.cell? ⟨b, o, none⟩ = some (.string ⟨#[116, 46, 105, 100]⟩) := hr 0 _ rfl
  have q4 : w4.cell? ⟨b, o + 4, none⟩ = some (.string ⟨#[105]⟩) := hr 4 _ rfl
  have q5 : w4.cell? ⟨b, o + 4 + 1, none⟩ = some (.string ⟨#[116]⟩) := hr 5 _ rfl
  have q6 : w4.cell? ⟨b, o + 4 + 2, none⟩ = some (.int .i64 1) := hr 6 _ rfl
  have q7 : w4.cell? ⟨b, o + 4 + 3, none⟩ = some (.bool true) := hr 7 _ rfl
  have X4 := Lib.hid (X3.out.trans x4 (fun _ h => h.elim))
  have H4 := Lib.hid (H3.out.quiet x4)
  clear x4 hp hr
  go_wp2_with fail
  refine (rows_any r (fun k => w.heap.size ≤ k) catB w4 H4.out).mono ?_
  rintro e w5 ⟨_, rfl, ⟨us, hus, ao5, cap5, rfl, _⟩, x5⟩
  rw [awC3]
  have X5 := Lib.hid ((X4.out.trans x5 (fun _ h => h.elim)).mono (G := fun _ => False) (fun k hk => .inr hk))
  clear x5 hus
  go_wp2
  go_ret
  exact ⟨rfl, X5.out⟩
end Go.Proofs.Ytpiijcjbphpffaa
