/-
  CatalogFull, in plain Lean: what the tables and the indexes are after so many calls. No condition beyond each lemma's own.
-/
import Derived.Test.YtpiijcjbphpffaaCAwake
set_option autoImplicit false
namespace Go.Proofs.Ytpiijcjbphpffaa
open Go Go.RowKit

def chr (i : Nat) : UInt8 := UInt8.ofNat (97 + i)
def colF (k i : Nat) : Col := ⟨⟨#[chr i]⟩, 1, false, decide (i < k)⟩
def colsF (k m : Nat) : List Col := (List.range m).map (colF k)
def nT : ByteArray := ⟨#[116]⟩
def nP : ByteArray := ⟨#[112]⟩
theorem colsF_get {k m i : Nat} (h : i < m) : (colsF k m)[i]? = some (colF k i) := by unfold colsF; simp [h]
theorem colsF_len (k m : Nat) : (colsF k m).length = m := by simp [colsF]
theorem colsF_ok (k m j : Nat) (h : j ≤ m) : colsOk (colsF k m) j = colsOk (colsF 0 m) j := by
  unfold colsOk
  rw [Bool.eq_iff_iff, List.all_eq_true, List.all_eq_true]
  have : ∀ i, i < m → colOk (colsF k m) i (colF k i) = colOk (colsF 0 m) i (colF 0 i) := fun i hi => by
    unfold colOk colsF
    rw [← List.map_take, ← List.map_take, List.any_map, List.any_map]
    rfl
  constructor <;> intro H i hi
  · have := H i hi
    have hi := List.mem_range.1 hi
    rw [colsF_get (by omega)] at this ⊢
    simp only [‹∀ i, i < m → _› i (by omega)] at this
    exact this
  · have := H i hi
    have hi := List.mem_range.1 hi
    rw [colsF_get (by omega)] at this ⊢
    simp only [‹∀ i, i < m → _› i (by omega)]
    exact this
theorem colsF_all : ∀ m < 17, 1 ≤ m → colsOk (colsF 0 m) m = true := by decide +kernel
theorem colsF_may {n : ByteArray} {k m : Nat} (hn : nameB n = true) (h1 : 1 ≤ m) (h2 : m ≤ 16) : mayB n (colsF k m) = true := by
  unfold mayB
  rw [colsF_len, colsF_ok k m m (Nat.le_refl _), colsF_all m (by omega) h1, hn]
  simp; omega
/-! the indexes -/
def ixN (i : Nat) : ByteArray := ⟨#[105, chr i]⟩
def ixF (i : Nat) : Ix := ⟨ixN i, nT, 15, decide (i % 2 = 0)⟩
def ixsF (m : Nat) : List Ix := (List.range m).map ixF
theorem ixN_ok : ∀ i < 20, nameB (ixN i) = true := by decide +kernel
theorem chr_inj : ∀ i < 20, ∀ j < 20, chr i = chr j → i = j := by decide +kernel
theorem ixN_inj {i j : Nat} (hi : i < 20) (hj : j < 20) (h : ixN i = ixN j) : i = j := by
  unfold ixN at h
  simp at h
  exact chr_inj i hi j hj h
theorem ifind_F {m i : Nat} (h : m ≤ i) (hi : i < 20) : ifind (ixsF m) (ixN i) = none := by
  unfold ifind
  rw [List.find?_eq_none]
  intro x hx
  obtain ⟨j, hj, rfl⟩ := List.mem_map.1 hx
  have hj := List.mem_range.1 hj
  have : ixN j ≠ ixN i := fun e => by have := ixN_inj (by omega) hi e; omega
  show ¬ (ixN j == ixN i) = true
  rw [beq_ne this]
  simp
def tab0 (k : Nat) : Tab := ⟨nT, colsF k 16⟩
def catI (k i : Nat) : Cat := ⟨[tab0 k], ixsF (min i (16 - k))⟩
theorem catI_cols (k i : Nat) : colsOf (catI k i).T nT = colsF k 16 := by
  unfold colsOf tfind catI
  rw [List.find?_cons, show ((tab0 k).name == nT) = true from beq_self _]
  rfl
theorem idx_P (k : Nat) : idxOf (colsF k 16) nP = 15 := by
  have : (colsF k 16).findIdx? (fun c => c.name == nP) = (colsF 0 16).findIdx? (fun c => c.name == nP) := by
    unfold colsF
    rw [List.findIdx?_map, List.findIdx?_map]
    rfl
  unfold idxOf
  rw [this]
  decide +kernel
theorem uniq_F : ∀ k < 17, (uniqOf nT (colsF k 16)).length = k := by decide +kernel
theorem made_F (k i : Nat) : ((catI k i).made nT).length = min i (16 - k) := by
  unfold Cat.made
  rw [(byName_perm _).length_eq]
  have : ((catI k i).I.filter fun x => x.tab == nT) = (catI k i).I := List.filter_eq_self.2 (fun x hx => by
    obtain ⟨j, _, rfl⟩ := List.mem_map.1 hx
    exact beq_self _)
  rw [this]
  simp [catI, ixsF]
theorem indexes_F {k : Nat} (hk : k < 17) (i : Nat) : ((catI k i).indexes nT).length = k + min i (16 - k) := by
  unfold Cat.indexes
  rw [List.length_append, catI_cols, uniq_F k hk, made_F]
theorem addIR_F {k i : Nat} (hk : k < 17) (hi : i < 20) : (catI k i).addIR (ixN i) nT nP = if k + i < 16 then 0 else 20 := by
  unfold Cat.addIR
  rw [ixN_ok i hi, catI_cols, idx_P, indexes_F hk, show (catI k i).I = ixsF (min i (16 - k)) from rfl, ifind_F (by omega) hi]
  simp only [if_true, Option.isSome_none, Bool.false_or, decide_eq_true_eq]
  rw [if_neg (by omega)]
  by_cases h : k + i < 16
  · rw [if_pos h, if_neg (by omega)]
  · rw [if_neg h, if_pos (by omega)]
theorem addI_F {k i : Nat} (hk : k < 17) (hi : i < 20) : (catI k i).addI (ixN i) nT nP (decide (i % 2 = 0)) = catI k (i + 1) := by
  unfold Cat.addI
  rw [addIR_F hk hi, catI_cols, idx_P]
  by_cases h : k + i < 16
  · rw [if_pos h, if_pos rfl]
    unfold catI
    have : min (i + 1) (16 - k) = min i (16 - k) + 1 := by omega
    rw [this]
    have h2 : min i (16 - k) = i := by omega
    rw [h2]
    unfold ixsF
    rw [List.range_succ, List.map_append]
    rfl
  · rw [if_neg h, if_neg (by omega)]
    unfold catI
    have : min (i + 1) (16 - k) = min i (16 - k) := by omega
    rw [this]
/-! the tables -/
def tbN (i : Nat) : ByteArray := ⟨#[116, chr i]⟩
def tbF (k m i : Nat) : Tab := ⟨tbN (i + 1), colsF k m⟩
/-- so many tables of the second sort, behind all indexes -/
def catT (k m j : Nat) : Cat := ⟨tab0 k :: (List.range (min j 15)).map (tbF k m), ixsF (16 - k)⟩
theorem tbN_ok : ∀ i < 20, nameB (tbN i) = true := by decide +kernel
theorem catT_zero (k m : Nat) (hk : k < 17) : catI k 20 = catT k m 0 := by
  unfold catI catT
  have : min 20 (16 - k) = 16 - k := by omega
  rw [this]
  rfl
theorem tfind_T {k m j : Nat} (hj : j < 19) : tfind (catT k m j).T (tbN (j + 1)) = none := by
  unfold tfind
  rw [List.find?_eq_none]
  intro x hx
  show ¬ (x.name == tbN (j + 1)) = true
  have : x.name ≠ tbN (j + 1) := by
    rcases List.mem_cons.1 hx with rfl | hx
    · show nT ≠ tbN (j + 1)
      intro e
      simp [nT, tbN] at e
    · obtain ⟨l, hl, rfl⟩ := List.mem_map.1 hx
      have hl := List.mem_range.1 hl
      show tbN (l + 1) ≠ tbN (j + 1)
      intro e
      simp [tbN] at e
      have := chr_inj (l + 1) (by omega) (j + 1) (by omega) e
      omega
  rw [beq_ne this]
  simp
theorem addTR_F {k m j : Nat} (h1 : 1 ≤ m) (h2 : m ≤ 16) (hj : j < 19) : (catT k m j).addTR (tbF k m j) = if j + 1 < 16 then 0 else 20 := by
  unfold Cat.addTR
  rw [show mayB (tbF k m j).name (tbF k m j).cols = true from colsF_may (tbN_ok (j + 1) (by omega)) h1 h2, show (tbF k m j).name = tbN (j + 1) from rfl, tfind_T hj]
  have : (catT k m j).T.length = min j 15 + 1 := by simp [catT]
  rw [this]
  simp only [if_true, Option.isSome_none, Bool.false_eq_true, if_false]
  by_cases h : j + 1 < 16
  · rw [if_pos h, if_neg (by omega)]
  · rw [if_neg h, if_pos (by omega)]
theorem addT_F {k m j : Nat} (h1 : 1 ≤ m) (h2 : m ≤ 16) (hj : j < 19) : (catT k m j).addT (tbF k m j) = catT k m (j + 1) := by
  unfold Cat.addT
  rw [addTR_F h1 h2 hj]
  by_cases h : j + 1 < 16
  · rw [if_pos h, if_pos rfl]
    unfold catT
    have e1 : min (j + 1) 15 = j + 1 := by omega
    have e2 : min j 15 = j := by omega
    rw [e1, e2, List.range_succ, List.map_append]
    rfl
  · rw [if_neg h, if_neg (by omega)]
    unfold catT
    have : min (j + 1) 15 = min j 15 := by omega
    rw [this]
theorem tables_F (k m : Nat) : (catT k m 19).tables.length = 16 := by
  unfold Cat.tables
  rw [(byNameT_perm _).length_eq]
  simp [catT]
theorem last_F {k : Nat} (m : Nat) (hk : k < 17) : ((catT k m 19).indexes nT).length = 16 := by
  have e1 : colsOf (catT k m 19).T nT = colsF k 16 := by
    unfold colsOf tfind catT
    rw [List.find?_cons, show ((tab0 k).name == nT) = true from beq_self _]
    rfl
  have e2 : ((catT k m 19).made nT).length = 16 - k := by
    have : (catT k m 19).made nT = (catI k 20).made nT := by
      unfold Cat.made
      rw [show (catT k m 19).I = ixsF (16 - k) from rfl, show (catI k 20).I = ixsF (min 20 (16 - k)) from rfl, show min 20 (16 - k) = 16 - k by omega]
    rw [this, made_F]; omega
  unfold Cat.indexes
  rw [List.length_append, e1, e2, uniq_F k hk]
  omega
theorem add0_F {k : Nat} : Cat.empty.addTR (tab0 k) = 0 := by
  unfold Cat.addTR
  rw [show mayB (tab0 k).name (tab0 k).cols = true from colsF_may (n := nT) (by decide) (by omega) (Nat.le_refl _)]
  rfl
theorem addC_F {k : Nat} : Cat.empty.addT (tab0 k) = catI k 0 := by
  unfold Cat.addT
  rw [add0_F, if_pos rfl]
  unfold catI
  simp [Cat.empty, ixsF]
end Go.Proofs.Ytpiijcjbphpffaa
