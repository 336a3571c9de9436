/-
  CatalogNames: of every text. Condition: the text is no longer than the model's greatest length.
-/
import Derived.Test.YtpiijcjbphpffaaCAwake
import Derived.Test.YtpiijcjbphpffaaCRName
set_option autoImplicit false
namespace Go.Proofs.Ytpiijcjbphpffaa
open Go Go.RowKit

def u0 : ByteArray := ⟨#[117, 48]⟩
def nA : ByteArray := ⟨#[97]⟩
def tabS (s : ByteArray) : Tab := ⟨s, [⟨nA, 2, false, false⟩]⟩
def tabU (s : ByteArray) : Tab := ⟨u0, [⟨s, 3, false, false⟩]⟩
theorem mayS (s : ByteArray) : mayB (tabS s).name (tabS s).cols = nameB s := by
  unfold mayB tabS
  rw [show colsOk [⟨nA, 2, false, false⟩] ([⟨nA, 2, false, false⟩] : List Col).length = true by decide]
  simp
theorem mayU (s : ByteArray) : mayB (tabU s).name (tabU s).cols = nameB s := by
  unfold mayB tabU
  rw [show colsOk [⟨s, 3, false, false⟩] ([⟨s, 3, false, false⟩] : List Col).length = nameB s by simp [colsOk, colOk], show nameB u0 = true by decide]
  simp
theorem nmE0 {s : ByteArray} (h : nameB s = true) : Cat.empty.addTR (tabS s) = 0 := by
  unfold Cat.addTR
  rw [mayS, h]
  rfl
theorem nmC0 {s : ByteArray} (h : nameB s = true) : Cat.empty.addT (tabS s) = ⟨[tabS s], []⟩ := by unfold Cat.addT; rw [nmE0 h, if_pos rfl]; rfl
theorem nmE1 {C : Cat} {s : ByteArray} (h : nameB s = false) : C.addTR (tabS s) = 1 := by unfold Cat.addTR; rw [mayS, h]; rfl
theorem nmC1 {C : Cat} {s : ByteArray} (h : nameB s = false) : C.addT (tabS s) = C := by unfold Cat.addT; rw [nmE1 h, if_neg (by omega)]
theorem nmF1 {C : Cat} {s : ByteArray} (h : nameB s = false) : C.addTR (tabU s) = 1 := by unfold Cat.addTR; rw [mayU, h]; rfl
theorem nmD1 {C : Cat} {s : ByteArray} (h : nameB s = false) : C.addT (tabU s) = C := by unfold Cat.addT; rw [nmF1 h, if_neg (by omega)]
theorem nmG1 {C : Cat} {s a b : ByteArray} (h : nameB s = false) : C.addIR s a b = 1 := by unfold Cat.addIR; rw [h]; rfl
theorem nmFu {s : ByteArray} (h : s = u0) : Cat.addTR ⟨[tabS s], []⟩ (tabU s) = 32 := by subst h; decide
theorem find2 {s : ByteArray} (h : s ≠ u0) : tfind [tabS s, tabU s] s = some (tabS s) ∧ tfind [tabS s, tabU s] u0 = some (tabU s) := by
  constructor
  · unfold tfind; rw [List.find?_cons]; simp [tabS, beq_self]
  · unfold tfind; rw [List.find?_cons, show ((tabS s).name == u0) = false from beq_ne h, List.find?_cons, show ((tabU s).name == u0) = true from beq_self _]
theorem nmF0 {s : ByteArray} (h : nameB s = true) (hu : s ≠ u0) : Cat.addTR ⟨[tabS s], []⟩ (tabU s) = 0 := by
  unfold Cat.addTR
  rw [mayU, h]
  have : tfind [tabS s] (tabU s).name = none := by unfold tfind; rw [List.find?_cons, show ((tabS s).name == (tabU s).name) = false from beq_ne hu]; rfl
  rw [this]
  rfl
theorem nmD0 {s : ByteArray} (h : nameB s = true) (hu : s ≠ u0) : Cat.addT ⟨[tabS s], []⟩ (tabU s) = ⟨[tabS s, tabU s], []⟩ := by unfold Cat.addT; rw [nmF0 h hu, if_pos rfl]; rfl
theorem nmH0 {s : ByteArray} (h : nameB s = true) (hu : s ≠ u0) : Cat.addTR ⟨[tabS s, tabU s], []⟩ (tabS s) = 32 := by
  unfold Cat.addTR
  rw [mayS, h, show (tabS s).name = s from rfl, (find2 hu).1]
  rfl
theorem nmI0 {s : ByteArray} (h : nameB s = true) (hu : s ≠ u0) : Cat.addIR ⟨[tabS s, tabU s], []⟩ s u0 s = 0 := by
  unfold Cat.addIR
  have e1 : colsOf [tabS s, tabU s] u0 = [⟨s, 3, false, false⟩] := by unfold colsOf; rw [(find2 hu).2]; rfl
  have e2 : idxOf [⟨s, 3, false, false⟩] s = 0 := by unfold idxOf; rw [List.findIdx?_cons]; simp [beq_self]
  rw [h]
  simp only [e1, e2]
  have e3 : (Cat.indexes ⟨[tabS s, tabU s], []⟩ u0).length = 0 := by
    unfold Cat.indexes
    rw [e1]
    have : Cat.made ⟨[tabS s, tabU s], []⟩ u0 = [] := by unfold Cat.made byName; simp
    rw [this]
    rfl
  rw [e3]
  rfl
def catN (s : ByteArray) : Cat := ⟨[tabS s, tabU s], [⟨s, u0, 0, true⟩]⟩
theorem nmJ0 {s : ByteArray} (h : nameB s = true) (hu : s ≠ u0) : Cat.addI ⟨[tabS s, tabU s], []⟩ s u0 s true = catN s := by
  unfold Cat.addI
  rw [nmI0 h hu, if_pos rfl]
  have e1 : colsOf [tabS s, tabU s] u0 = [⟨s, 3, false, false⟩] := by unfold colsOf; rw [(find2 hu).2]; rfl
  have e2 : idxOf [⟨s, 3, false, false⟩] s = 0 := by unfold idxOf; rw [List.findIdx?_cons]; simp [beq_self]
  simp only [e1, e2]
  rfl
theorem nmK0 {s : ByteArray} (h : nameB s = true) : (catN s).addIR s s nA = 32 := by
  unfold Cat.addIR
  rw [h]
  have : (ifind (catN s).I s).isSome = true := by unfold ifind catN; simp [beq_self]
  rw [this]
  rfl
theorem nmL0 {s x : ByteArray} (hu : s ≠ u0) (hx : nameB x = true) : (catN s).addIR x s ⟨#[98, 48]⟩ = 32 := by
  unfold Cat.addIR
  rw [hx]
  have : colsOf (catN s).T s = [⟨nA, 2, false, false⟩] := by unfold colsOf catN; rw [(find2 hu).1]; rfl
  rw [this, show decide (idxOf [⟨nA, 2, false, false⟩] ⟨#[98, 48]⟩ < 0) = true by decide, Bool.or_true]
  rfl
def iName (s : ByteArray) : ByteArray := ⟨#[105, 48]⟩ ++ s.extract 0 1
theorem iName_ok {s : ByteArray} (h : nameB s = true) : nameB (iName s) = true := by
  have hsz := nameB_size h
  have hc : chOk (s.data.toList.getD 0 0).toNat true = true := by
    unfold nameB at h
    simp only [Bool.and_eq_true] at h
    have := namePre_mono h.1.1 (by omega : 1 ≤ s.size)
    rw [namePre_succ] at this
    simp only [Bool.and_eq_true] at this
    exact this.2
  obtain ⟨c, l, hl⟩ : ∃ c l, s.data.toList = c :: l := by
    cases hs : s.data.toList with
    | nil => have : s.data.toList.length = s.size := by simp
             rw [hs] at this; simp at this; omega
    | cons c l => exact ⟨c, l, rfl⟩
  rw [hl] at hc
  simp at hc
  have hd : (iName s).data.toList = [105, 48, c] := by
    unfold iName
    simp [ByteArray.data_append, ByteArray.data_extract, Array.toList_extract, hl]
  have hc2 : chOk c.toNat false = true := by
    unfold chOk at hc ⊢
    simp only [Bool.or_eq_true, Bool.and_eq_true] at hc ⊢
    rcases hc with (h | h) | h
    · exact .inl (.inl h)
    · exact .inl (.inr h)
    · exact absurd h.2 (by simp)
  have hz : (iName s).size = 3 := by
    have : (iName s).size = (iName s).data.toList.length := by simp
    rw [this, hd]; rfl
  unfold nameB namePre
  rw [hz, hd]
  have : (List.range 3) = [0, 1, 2] := rfl
  rw [this]
  simp [hc2]
  decide
theorem new4 (w : World) (a b c d : Obj) : ((((w.alloc a).alloc b).alloc c).alloc d).heap[w.heap.size]? = some a ∧ ((((w.alloc a).alloc b).alloc c).alloc d).heap[w.heap.size + 1]? = some b ∧ ((((w.alloc a).alloc b).alloc c).alloc d).heap[w.heap.size + 2]? = some c ∧ ((((w.alloc a).alloc b).alloc c).alloc d).heap[w.heap.size + 3]? = some d := by
  obtain ⟨n1, n2, n3⟩ := new3 w a b c
  have z3 : (((w.alloc a).alloc b).alloc c).heap.size = w.heap.size + 3 := by simp
  refine ⟨?_, ?_, ?_, hal_new' z3.symm⟩
  · rw [hal_old (by omega)]; exact n1
  · rw [hal_old (by omega)]; exact n2
  · rw [hal_old (by omega)]; exact n3
theorem u0_no {s : ByteArray} (h : s ≠ u0) : (s.toList == [117, 48]) = false := by
  rw [show ([117, 48] : List UInt8) = u0.toList by rw [Lib.toList_data]; rfl, ← beq_list]
  exact beq_ne h
theorem u0_yes {s : ByteArray} (h : s = u0) : (s.toList == [117, 48]) = true := by
  rw [show ([117, 48] : List UInt8) = u0.toList by rw [Lib.toList_data]; rfl, ← beq_list, h]
  exact beq_self _
set_option maxRecDepth 100000 in
set_option maxHeartbeats 2000000 in
theorem names_any (s : ByteArray) (w : World) (hs : big s) : Calls Try.prog 4 #[.string s] w fun e w' => e = .returned (.bool true) ∧ Chg (fun _ => False) w w' := by
  go_enter Try.func4, Try.ntmps4
  go_wp2_with fail
  refine (awake_any w).mono ?_
  rintro e w0 ⟨rfl, x0⟩
  have X0 := Lib.hid x0
  clear x0
  go_wp2_with fail
  refine (cnew_any w0).mono ?_
  rintro e w1 ⟨r, rfl, h1, x1⟩
  obtain ⟨F, hF⟩ : ∃ F : Nat → Prop, F = fun k => w0.heap.size ≤ k ∧ (k < w1.heap.size ∨ w1.heap.size + 4 ≤ k) := ⟨_, rfl⟩
  have HF := Lib.hid hF
  have hb : CatAt w1 r F Cat.empty := h1.mono (fun k hk _ => by rcases hk with h | h; exact h.elim; rw [hF]; exact ⟨h.1, .inl h.2⟩)
  have H1 := Lib.hid hb; have X1 := Lib.hid (X0.out.trans x1 (fun _ h => h.elim))
  have Z01 : Hid (w0.heap.size ≤ w1.heap.size) := Lib.hid x1.size
  clear h1 x1 hb hF
  go_wp2_with fail
  obtain ⟨W4, hW4⟩ : ∃ W4, W4 = (((w1.alloc (.cells #[.string ⟨#[97]⟩, .int .i64 2, .bool false, .bool false] 30)).alloc (.cells #[.string s, .slice (some ⟨w1.heap.size, 0, none⟩) 1 1] 27)).alloc (.cells #[.string s, .int .i64 3, .bool false, .bool false] 30)).alloc (.cells #[.string ⟨#[117, 48]⟩, .slice (some ⟨w1.heap.size + 1 + 1, 0, none⟩) 1 1] 27) := ⟨_, rfl⟩
  have z4 : W4.heap.size = w1.heap.size + 4 := by subst hW4; simp
  have x4 : Chg (fun _ => False) w1 W4 := by subst hW4; exact ((((Chg.refl _ _).alloc _).alloc _).alloc _).alloc _
  have b1 : W4.heap[w1.heap.size]? = some (.cells (colCells (tabS s).cols).toArray 30 (0, 0)) := by subst hW4; exact (new4 w1 _ _ _ _).1
  have b2 : W4.heap[w1.heap.size + 1]? = some (.cells #[.string s, .slice (some ⟨w1.heap.size, 0, none⟩) 1 1] 27 (0, 0)) := by subst hW4; exact (new4 w1 _ _ _ _).2.1
  have b3 : W4.heap[w1.heap.size + 2]? = some (.cells (colCells (tabU s).cols).toArray 30 (0, 0)) := by subst hW4; exact (new4 w1 _ _ _ _).2.2.1
  have b4 : W4.heap[w1.heap.size + 3]? = some (.cells #[.string u0, .slice (some ⟨w1.heap.size + 1 + 1, 0, none⟩) 1 1] 27 (0, 0)) := by subst hW4; exact (new4 w1 _ _ _ _).2.2.2
  have hout : ∀ k, w1.heap.size ≤ k → k < w1.heap.size + 4 → ¬ F k := fun k h1 h2 h3 => by rw [HF.out] at h3; omega
  have HO := Lib.hid hout
  have hext : ∀ (W W' : World) (C : Cat), w1.heap.size + 4 ≤ W.heap.size → CatAt W' r (Ext F W W') C → CatAt W' r F C := fun W W' C hz h => h.mono (fun k hk _ => by
    rcases hk with h | h
    · exact h
    · rw [HF.out]; exact ⟨by have := Z01.out; have := h.1; omega, .inr (by have := h.1; omega)⟩)
  have HE := Lib.hid hext
  have hcS : ∀ W, Chg F W4 W → ColsAt W (fun k => k = w1.heap.size) (.slice (some ⟨w1.heap.size, 0, none⟩) 1 1) (tabS s).cols := fun W hW => ⟨_, 1, rfl, fun _ => ⟨w1.heap.size, 0, rfl, lt_of_heap (hW.heap b1 (hout _ (by omega) (by omega))), rfl, range_block (hW.heap b1 (hout _ (by omega) (by omega)))⟩⟩
  have hcU : ∀ W, Chg F W4 W → ColsAt W (fun k => k = w1.heap.size + 2) (.slice (some ⟨w1.heap.size + 1 + 1, 0, none⟩) 1 1) (tabU s).cols := fun W hW => ⟨_, 1, rfl, fun _ => ⟨w1.heap.size + 1 + 1, 0, rfl, lt_of_heap (hW.heap b3 (hout _ (by omega) (by omega))), rfl, range_block (hW.heap b3 (hout _ (by omega) (by omega)))⟩⟩
  have hbS : ∀ W, Chg F W4 W → W.cell? ⟨w1.heap.size + 1, 0, none⟩ = some (.string s) ∧ W.cell? ⟨w1.heap.size + 1, 1, none⟩ = some (.slice (some ⟨w1.heap.size, 0, none⟩) 1 1) ∧ W.cell? ⟨w1.heap.size + 1 + 1 + 1, 0, none⟩ = some (.string u0) ∧ W.cell? ⟨w1.heap.size + 1 + 1 + 1, 1, none⟩ = some (.slice (some ⟨w1.heap.size + 1 + 1, 0, none⟩) 1 1) := fun W hW => by
    have x2 := hW.heap b2 (hout _ (by omega) (by omega))
    have x4 := hW.heap b4 (hout _ (by omega) (by omega))
    exact ⟨cell_of_row W _ 0 _ _ _ x2, cell_of_row W _ 1 _ _ _ x2, cell_of_row W _ 0 _ _ _ x4, cell_of_row W _ 1 _ _ _ x4⟩
  have HCS := Lib.hid hcS; have HCU := Lib.hid hcU; have HBS := Lib.hid hbS
  have H4 := Lib.hid (H1.out.quiet x4); have X4 := Lib.hid (X1.out.trans x4 (fun _ h => h.elim)); have Z4 := Lib.hid z4; have HW4 := Lib.hid hW4
  have hbs : ∀ c ∈ (tabS s).cols, big c.name := fun c hc => by simp [tabS] at hc; subst hc; decide
  have hbu : ∀ c ∈ (tabU s).cols, big c.name := fun c hc => by simp [tabU] at hc; subst hc; exact hs
  have HBs := Lib.hid hbs; have HBu := Lib.hid hbu
  clear b1 b2 b3 b4 hout hext hcS hcU hbS x4 z4 hW4 hbs hbu
  have hend : ∀ W, Chg F W4 W → Chg (fun _ => False) w W := fun W hW => ((X4.out.mono (G := fun k => w.heap.size ≤ k) (fun _ h => h.elim)).trans hW (fun k h => .inl (by rw [HF.out] at h; have := X0.out.size; omega))).mono (fun k hk => .inr hk)
  have HEND := Lib.hid hend
  clear hend
  rw [← HW4.out]
  cases hn : nameB s with
  | false =>
    have HN := Lib.hid hn
    clear hn
    refine (addT_any r F _ Cat.empty (tabS s) _ W4 H4.out (HCS.out _ (Chg.refl _ _)) (by show 1 ≤ _; omega) hs HBs.out).mono ?_
    rw [nmE1 HN.out, nmC1 HN.out]
    rintro e w5 ⟨rfl, h5, x5⟩
    have H5 := Lib.hid (HE.out _ _ _ (by rw [Z4.out]; exact Nat.le_refl _) h5); have X5 := Lib.hid x5
    obtain ⟨s1, s2, s3, s4⟩ := HBS.out w5 x5
    clear h5 x5
    go_wp2_with fail
    refine (addT_any r F _ Cat.empty (tabU s) _ w5 H5.out (HCU.out _ X5.out) (by show 1 ≤ _; omega) (by show u0.size ≤ 9223372036854775807; decide) HBu.out).mono ?_
    rw [nmF1 HN.out, nmD1 HN.out]
    rintro e w6 ⟨rfl, h6, x6⟩
    have H6 := Lib.hid (HE.out _ _ _ (by have := X5.out.size; have := Z4.out; omega) h6); have X6 := Lib.hid (X5.out.trans x6 (fun _ h => .inl h))
    clear h6 x6 s1 s2 s3 s4
    have hnu := u0_no (s := s) (fun e => by subst e; have := HN.out; exact absurd this (by decide))
    go_wp2_with fail
    refine (rname_any s w6 hs).mono ?_
    rw [HN.out]
    rintro e w7 ⟨rfl, rfl⟩
    go_wp2_with fail
    refine (addI_any r F Cat.empty s ⟨#[117, 48]⟩ s false w6 H6.out hs).mono ?_
    rw [nmG1 HN.out]
    rintro e w8 ⟨rfl, h8, x8⟩
    have X8 := Lib.hid (X6.out.trans x8 (fun _ h => .inl h))
    clear h8 x8
    go_wp2
    go_ret
    exact ⟨rfl, HEND.out _ X8.out⟩
  | true =>
    have HN := Lib.hid hn
    clear hn
    refine (addT_any r F _ Cat.empty (tabS s) _ W4 H4.out (HCS.out _ (Chg.refl _ _)) (by show 1 ≤ _; omega) hs HBs.out).mono ?_
    rw [nmE0 HN.out, nmC0 HN.out]
    rintro e w5 ⟨rfl, h5, x5⟩
    have H5 := Lib.hid (HE.out _ _ _ (by rw [Z4.out]; exact Nat.le_refl _) h5); have X5 := Lib.hid x5
    obtain ⟨s1, s2, s3, s4⟩ := HBS.out w5 x5
    clear h5 x5
    go_wp2_with fail
    refine (addT_any r F _ ⟨[tabS s], []⟩ (tabU s) _ w5 H5.out (HCU.out _ X5.out) (by show 1 ≤ _; omega) (by show u0.size ≤ 9223372036854775807; decide) HBu.out).mono ?_
    by_cases hu : s = u0
    · rw [nmFu hu]
      rintro e w6 ⟨rfl, h6, x6⟩
      have X6 := Lib.hid (X5.out.trans x6 (fun _ h => .inl h))
      have hyu := u0_yes hu
      clear h6 x6 s1 s2 s3 s4 hu
      go_wp2
      go_ret
      exact ⟨rfl, HEND.out _ X6.out⟩
    · rw [nmF0 HN.out hu, nmD0 HN.out hu]
      rintro e w6 ⟨rfl, h6, x6⟩
      have X6 := Lib.hid (X5.out.trans x6 (fun _ h => .inl h))
      have H6 := Lib.hid (HE.out _ _ _ (by have := X5.out.size; have := Z4.out; omega) h6)
      obtain ⟨t1, t2, t3, t4⟩ := HBS.out w6 X6.out
      have hnu := u0_no hu
      have HU := Lib.hid hu
      clear h6 x6 s1 s2 s3 s4 hu
      go_wp2_with fail
      refine (rname_any s w6 hs).mono ?_
      rw [HN.out]
      rintro e w7 ⟨rfl, rfl⟩
      go_wp2_with fail
      refine (addT_any r F _ ⟨[tabS s, tabU s], []⟩ (tabS s) _ w6 H6.out (HCS.out _ X6.out) (by show 1 ≤ _; omega) hs HBs.out).mono ?_
      have hC : Cat.addT ⟨[tabS s, tabU s], []⟩ (tabS s) = ⟨[tabS s, tabU s], []⟩ := by unfold Cat.addT; rw [nmH0 HN.out HU.out, if_neg (by omega)]
      rw [nmH0 HN.out HU.out, hC]
      rintro e w8 ⟨rfl, h8, x8⟩
      have X8 := Lib.hid (X6.out.trans x8 (fun _ h => .inl h))
      have H8 := Lib.hid (HE.out _ _ _ (by have := X6.out.size; have := Z4.out; omega) h8)
      clear h8 x8 t1 t2 t3 t4 hC
      go_wp2_with fail
      refine (addI_any r F ⟨[tabS s, tabU s], []⟩ s ⟨#[117, 48]⟩ s true w8 H8.out hs).mono ?_
      rw [show Cat.addIR ⟨[tabS s, tabU s], []⟩ s ⟨#[117, 48]⟩ s = 0 from nmI0 HN.out HU.out, show Cat.addI ⟨[tabS s, tabU s], []⟩ s ⟨#[117, 48]⟩ s true = catN s from nmJ0 HN.out HU.out]
      rintro e w9 ⟨rfl, h9, x9⟩
      have X9 := Lib.hid (X8.out.trans x9 (fun _ h => .inl h))
      have H9 := Lib.hid h9
      clear h9 x9
      go_wp2_with fail
      refine (addI_any r F (catN s) s s ⟨#[97]⟩ true w9 H9.out hs).mono ?_
      have hC : (catN s).addI s s ⟨#[97]⟩ true = catN s := by unfold Cat.addI; rw [show (catN s).addIR s s ⟨#[97]⟩ = 32 from nmK0 HN.out, if_neg (by omega)]
      rw [show (catN s).addIR s s ⟨#[97]⟩ = 32 from nmK0 HN.out, hC]
      rintro e w10 ⟨rfl, h10, x10⟩
      have X10 := Lib.hid (X9.out.trans x10 (fun _ h => .inl h))
      have H10 := Lib.hid h10
      clear h10 x10 hC
      have hsz := nameB_size HN.out
      obtain ⟨z1, z2⟩ := hsz
      go_wp2_with fail
      refine (addI_any r F (catN s) (iName s) s ⟨#[98, 48]⟩ true w10 H10.out (by have := (nameB_size (iName_ok HN.out)).2; show _ ≤ _; omega)).mono ?_
      rw [nmL0 HU.out (iName_ok HN.out)]
      rintro e w11 ⟨rfl, h11, x11⟩
      have X11 := Lib.hid (X10.out.trans x11 (fun _ h => .inl h))
      clear h11 x11
      go_wp2
      go_ret
      exact ⟨rfl, HEND.out _ X11.out⟩
end Go.Proofs.Ytpiijcjbphpffaa
