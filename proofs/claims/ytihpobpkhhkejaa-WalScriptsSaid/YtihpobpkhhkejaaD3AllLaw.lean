/-
  Plain laws on a disk's restart: all kept is a Sync, none kept is the last Sync. No condition beyond each lemma's own.
-/
import Derived.Test.YtihpobpkhhkejaaD3Laid
set_option autoImplicit false
namespace Go.Proofs.Ytihpobpkhhkejaa
open Go Go.RowKit

theorem nowTo_eq (f g : Int → Sec) (l : List (Int × Sec)) (x : Int) : ∀ k, k ≤ l.length → nowTo f g l k x = if x ∈ (l.take k).map (·.1) then g x else f x := by
  intro k
  induction k with
  | zero => intro _; simp [nowTo]
  | succ k ih =>
    intro hk
    have hl : l[k]? = some l[k] := List.getElem?_eq_getElem (by omega)
    rw [take_succ_get hl]
    simp only [nowTo, hl, upd, List.map_append, List.mem_append, List.map_cons, List.map_nil, List.mem_singleton]
    rw [ih (by omega)]
    by_cases h1 : x = l[k].1
    · simp [h1]
    · simp [h1]
theorem keepTo_true (f : Int → Sec) (l : List (Int × Sec)) : ∀ k, k ≤ l.length → keepTo f l (List.replicate l.length true) k = keepAll f (l.take k) := by
  intro k
  induction k with
  | zero => intro _; rfl
  | succ k ih =>
    intro hk
    have hl : l[k]? = some l[k] := List.getElem?_eq_getElem (by omega)
    have hr : (List.replicate l.length true)[k]? = some true := by rw [List.getElem?_replicate, if_pos (by omega)]
    rw [take_succ_get hl, keepAll_append]
    simp only [keepTo, hl, hr]
    rw [ih (by omega)]
theorem keepTo_false (f : Int → Sec) (l : List (Int × Sec)) (n : Nat) : ∀ k, keepTo f l (List.replicate n false) k = f := by
  intro k
  induction k with
  | zero => rfl
  | succ k ih =>
    simp only [keepTo]
    split
    · rename_i h1 h2
      rw [List.getElem?_replicate] at h2
      split at h2 <;> simp at h2
    · exact ih
theorem keepAll_not (f : Int → Sec) (l : List (Int × Sec)) (x : Int) (h : x ∉ l.map (·.1)) : keepAll f l x = f x := by
  induction l generalizing f with
  | nil => rfl
  | cons y l ih =>
    simp only [List.map_cons, List.mem_cons, not_or] at h
    show keepAll (upd f y.1 y.2) l x = f x
    rw [ih _ h.2]
    unfold upd
    rw [if_neg h.1]
theorem restart_now (D : Dsk) (ks : List Bool) (x : Int) : (D.restart ks).now x = if x ∈ D.wait.map (·.1) then keepTo D.kept D.wait ks D.wait.length x else D.now x := by
  show nowTo D.now (keepTo D.kept D.wait ks D.wait.length) D.wait D.wait.length x = _
  rw [nowTo_eq _ _ _ _ _ (Nat.le_refl _), List.take_length]
theorem all_now {k : Nat} {D : Dsk} (h : LaidInv k D) (x : Int) : (D.restart (List.replicate D.wait.length true)).now x = D.now x := by
  rw [restart_now, keepTo_true _ _ _ (Nat.le_refl _), List.take_length, h.same]
  split <;> rfl
theorem none_now {k : Nat} {D : Dsk} (h : LaidInv k D) (x : Int) : (D.restart (List.replicate D.wait.length false)).now x = D.kept x := by
  rw [restart_now, keepTo_false, ← h.same]
  split
  · rfl
  · rename_i hx
    exact keepAll_not _ _ _ hx
theorem writeR_kept {D : Dsk} (h : D.calm) (n : Int) (s : Sec) : (D.writeR n s).kept = D.kept := by
  by_cases hn : 0 ≤ n ∧ n < D.size
  · rw [writeR_in h hn.1 hn.2]; rfl
  · rw [writeR_out (by omega)]
theorem laid_kept (pn pb : Nat → Int) (sync : Int) (k0 : Nat) : ∀ k, k0 ≤ k → (∀ j : Nat, k0 ≤ j → j < k → (j : Int) ≠ sync) → (laidD pn pb sync k).kept = (laidD pn pb sync k0).kept := by
  intro k
  induction k with
  | zero => intro h _; obtain rfl : k0 = 0 := by omega
            rfl
  | succ k ih =>
    intro h hj
    by_cases he : k0 = k + 1
    · rw [he]
    · rw [laidD_no (hj k (by omega) (by omega)), writeR_kept (laid_inv pn pb sync k).calm]
      exact ih (by omega) (fun j h1 h2 => hj j h1 (by omega))
theorem laid_was (pn pb : Nat → Int) (s m : Nat) (h : s < m) : (laidD pn pb s (s + 1)).now = (laidD pn pb s m).kept := by
  rw [laid_kept pn pb s (s + 1) m (by omega) (fun j h1 _ => by omega), laidD_yes rfl]
  exact ((laid_inv pn pb s s).writeR (pn s) (secB (pb s))).same.symm
theorem laid_never (pn pb pn' pb' : Nat → Int) (sync sync' : Int) (m : Nat) (h : sync < 0 ∨ (m : Int) ≤ sync) : (laidD pn' pb' sync' 0).now = (laidD pn pb sync m).kept := by
  rw [laid_kept pn pb sync 0 m (by omega) (fun j h1 _ => by omega)]
  rfl
end Go.Proofs.Ytihpobpkhhkejaa
