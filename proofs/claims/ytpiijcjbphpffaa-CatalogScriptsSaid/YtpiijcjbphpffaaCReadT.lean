/-
  Read, the loop that takes a table's columns out of a row. No condition beyond each lemma's own.
-/
import Derived.Test.YtpiijcjbphpffaaCRead
set_option autoImplicit false
namespace Go.Proofs.Ytpiijcjbphpffaa
open Go Go.RowKit
attribute [local go_sem] field_val0 field_val1 field_val2 field_tab0 field_tab1

/-! readers that are kept for later -/
def ptrV (b : Nat) : Value := .pointer (some ⟨b, 0, none⟩)
structure Later (w : World) (B : Nat) (s : Value) (bs : List Nat) (L : List Rd) : Prop where
  own : Own 81 1 w B s bs.length (bs.map ptrV)
  len : bs.length = L.length
  each : ∀ (i : Nat) (b : Nat) (R : Rd), bs[i]? = some b → L[i]? = some R → RdAt w (fun g => g < B) b R
  inc : bs.Pairwise (fun a b => a < b)
  lo : ∀ b ∈ bs, B ≤ b ∧ b < w.heap.size
theorem rdr_ok : ElemOk 80 81 1 8 := elem_ok Try.underlying80 (by kernel_rfl)
theorem Later.chg {w w' : World} {B : Nat} {s : Value} {bs : List Nat} {L : List Rd} {G : Nat → Prop} (h : Later w B s bs L) (c : Chg G w w') (h1 : ∀ g, s.ownBlock = some g → ¬ G g) (h2 : ∀ b ∈ bs, ¬ G b) (h3 : ∀ g, g < B → ¬ G g) : Later w' B s bs L :=
  ⟨h.own.chg c h1, h.len, fun i b R hb hR => (h.each i b R hb hR).chg c (h2 b (List.mem_of_getElem? hb)) h3, h.inc, fun b hb => ⟨(h.lo b hb).1, Nat.lt_of_lt_of_le (h.lo b hb).2 c.size⟩⟩
theorem Later.nil (w : World) (B : Nat) : Later w B (.slice none 0 0) [] [] := ⟨Own.nil _ _ _ _, rfl, fun i b R hb _ => by simp at hb, List.Pairwise.nil, fun b hb => by simp at hb⟩
/-- a reader does not lie where the row of pointers lies -/
theorem Later.apart {w : World} {B : Nat} {s : Value} {bs : List Nat} {L : List Rd} (h : Later w B s bs L) {F : Nat → Prop} {b : Nat} {R : Rd} (hb : RdAt w F b R) : s.ownBlock ≠ some b := by
  intro e
  obtain ⟨cur, hc⟩ := ownsRow_heap h.own.row e
  obtain ⟨ao, cap, h1, _⟩ := hb
  rw [h1] at hc
  simp only [Option.some.injEq, Obj.cells.injEq] at hc
  exact absurd hc.2.1 (by decide)
theorem Later.app {w w' : World} {B : Nat} {s s' : Value} {bs : List Nat} {L : List Rd} {b : Nat} {R : Rd} (h : Later w B s bs L) (hR : RdAt w (fun g => g < B) b R) (hb : ∀ x ∈ bs, x < b) (hB : B ≤ b) (o : Own 81 1 w' B s' (bs.length + 1) (bs.map ptrV ++ [ptrV b])) (c : Chg (fun g => s.ownBlock = some g) w w') : Later w' B s' (bs ++ [b]) (L ++ [R]) := by
  have hlow : ∀ g, g < B → ¬ s.ownBlock = some g := fun g hg e => by have := h.own.lo g e; omega
  refine ⟨by rw [List.length_append, List.map_append]; exact o, by simp [h.len], fun i b' R' h1 h2 => ?_, ?_, fun x hx => ?_⟩
  · by_cases hi : i < bs.length
    · rw [List.getElem?_append_left hi] at h1
      rw [List.getElem?_append_left (by rw [← h.len]; exact hi)] at h2
      have he := h.each i b' R' h1 h2
      exact he.chg c (h.apart he) hlow
    · have hi2 : i = bs.length := by
        have := (List.getElem?_eq_some_iff.1 h1).1
        simp at this; omega
      subst hi2
      rw [List.getElem?_append_right (Nat.le_refl _)] at h1
      rw [List.getElem?_append_right (by rw [h.len]; exact Nat.le_refl _), h.len] at h2
      simp at h1 h2
      subst h1; subst h2
      exact hR.chg c (h.apart hR) hlow
  · rw [List.pairwise_append]
    exact ⟨h.inc, by simp, fun x hx y hy => by simp at hy; subst hy; exact hb x hx⟩
  · rcases List.mem_append.1 hx with hx | hx
    · exact ⟨(h.lo x hx).1, Nat.lt_of_lt_of_le (h.lo x hx).2 c.size⟩
    · simp at hx
      subst hx
      exact ⟨hB, Nat.lt_of_lt_of_le hR.lt c.size⟩
def sliceLen : Value → Nat
  | .slice _ n _ => n
  | _ => 0
def rdLen (w : World) (b : Nat) : Nat := match w.heap[b]? with
  | some (.cells cs _ _) => sliceLen (cs[0]?.getD undef)
  | _ => 0
theorem RdAt.mlen {w : World} {F : Nat → Prop} {b : Nat} {R : Rd} (h : RdAt w F b R) : rdLen w b = R.l.length := by
  obtain ⟨ao, cap, h1, _⟩ := h
  unfold rdLen
  rw [h1]
  rfl
end Go.Proofs.Ytpiijcjbphpffaa
