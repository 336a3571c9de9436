/-
  Catalogs whose lists hold the same: AddTable, AddIndex, and Read of the rows. No condition beyond each lemma's own.
-/
import Derived.Test.YtpiijcjbphpffaaCBackL
set_option autoImplicit false
namespace Go.Proofs.Ytpiijcjbphpffaa
open Go Go.RowKit

theorem Like.refl (C : Cat) : Like C C := ⟨List.Perm.refl _, List.Perm.refl _⟩
theorem Like.tfind {C D : Cat} (h : Like C D) (ok : C.ok) (n : ByteArray) : Go.Proofs.Ytpiijcjbphpffaa.tfind D.T n = Go.Proofs.Ytpiijcjbphpffaa.tfind C.T n := tfind_perm h.t ((h.t.map _).nodup_iff.2 ok.tn) n
theorem Like.ifind {C D : Cat} (h : Like C D) (n : ByteArray) : (Go.Proofs.Ytpiijcjbphpffaa.ifind D.I n).isSome = (Go.Proofs.Ytpiijcjbphpffaa.ifind C.I n).isSome := by
  unfold Go.Proofs.Ytpiijcjbphpffaa.ifind
  rw [List.isSome_find?, List.isSome_find?, Bool.eq_iff_iff, List.any_eq_true, List.any_eq_true]
  constructor
  · rintro ⟨x, hx, hn⟩
    exact ⟨x, h.i.mem_iff.1 hx, hn⟩
  · rintro ⟨x, hx, hn⟩
    exact ⟨x, h.i.mem_iff.2 hx, hn⟩
theorem Like.addTR {C D : Cat} (h : Like C D) (ok : C.ok) (t : Tab) : D.addTR t = C.addTR t := by
  unfold Cat.addTR
  rw [h.tfind ok, h.t.length_eq]
theorem Like.addT {C D : Cat} (h : Like C D) (ok : C.ok) (t : Tab) : Like (C.addT t) (D.addT t) := by
  unfold Cat.addT
  rw [h.addTR ok]
  split
  · exact ⟨h.t.append_right _, h.i⟩
  · exact h
theorem Like.addIR {C D : Cat} (h : Like C D) (ok : C.ok) (n t c : ByteArray) : D.addIR n t c = C.addIR n t c := by
  unfold Cat.addIR
  rw [h.ifind, h.cols ok, h.indexes ok]
theorem Like.addI {C D : Cat} (h : Like C D) (ok : C.ok) (n t c : ByteArray) (b : Bool) : Like (C.addI n t c b) (D.addI n t c b) := by
  unfold Cat.addI
  rw [h.addIR ok, h.cols ok]
  split
  · exact ⟨h.t, h.i.append_right _⟩
  · exact h
def Cat.sorted (C : Cat) : Cat := ⟨C.tables, C.ixs⟩
theorem sorted_like {C : Cat} (ok : C.ok) : Like C C.sorted := ⟨byNameT_perm C.T, ixs_perm ok⟩
theorem fold_sorted {C : Cat} (ok : C.ok) : foldO tabStep (Cat.empty, []) C.rows = some (⟨C.tables, []⟩, C.ixs.map ixRd) := by
  rw [Cat.rows_eq, foldO_app]
  have hT := byNameT_perm C.T
  have h1 := tabs_fold C.tables Cat.empty [] (by show 0 + C.tables.length ≤ 16; unfold Cat.tables; rw [hT.length_eq]; have := ok.t16; omega) (by
    show (([] ++ C.tables).map fun t : Tab => t.name).Nodup
    rw [List.nil_append]
    exact (hT.map _).nodup_iff.2 ok.tn) (fun t ht => ok.tm t (hT.mem_iff.1 ht))
  rw [h1]
  simp only
  rw [ixRows_fold]
  rfl
theorem read_sorted {C : Cat} (ok : C.ok) (hb : C.bud) : readC C.rows = some C.sorted := by
  unfold readC
  rw [fold_sorted ok]
  simp only
  have hT : ∀ n, Go.Proofs.Ytpiijcjbphpffaa.tfind C.tables n = Go.Proofs.Ytpiijcjbphpffaa.tfind C.T n := fun n => tfind_perm (byNameT_perm C.T) (((byNameT_perm C.T).map _).nodup_iff.2 ok.tn) n
  have hI : C.ixs.Perm C.I := ixs_perm ok
  rw [ixs_fold C.ixs ⟨C.tables, []⟩]
  · rfl
  · intro x hx
    obtain ⟨h1, t, h2, h3, h4⟩ := ok.im x (hI.mem_iff.1 hx)
    exact ⟨h1, t, by rw [show (Cat.mk C.tables []).T = C.tables from rfl, hT]; exact h2, (mayB_len (ok.tm t (tfind_mem h2))).2.2.2, h3, h4⟩
  · show (([] ++ C.ixs).map fun x : Ix => x.name).Nodup
    rw [List.nil_append]
    exact (hI.map _).nodup_iff.2 ok.inn
  · intro n
    show (uniqOf n (colsOf C.tables n)).length + (([] ++ C.ixs).filter fun x : Ix => x.tab == n).length ≤ 16
    rw [List.nil_append, (hI.filter _).length_eq]
    have := hb n
    unfold colsOf at this ⊢
    rw [hT]
    exact this
end Go.Proofs.Ytpiijcjbphpffaa
