/-
  The document's Read in plain Lean is the program's. No condition beyond each lemma's own.
-/
import Derived.Test.YtpiijcjbphpffaaCReadL
import Derived.Test.YtpiijcjbphpffaaCRIs
import Derived.Test.YtpiijcjbphpffaaCIdx
set_option autoImplicit false
namespace Go.Proofs.Ytpiijcjbphpffaa
open Go Go.RowKit

def rCols : List Val → Option (List Col)
  | a :: b :: c :: d :: l => if isB a 3 = true ∧ isB b 1 = true ∧ isB c 2 = true ∧ isB d 2 = true ∧ 1 ≤ b.num ∧ b.num ≤ 3 then (rCols l).map (⟨a.str, b.num, c.num == 1, d.num == 1⟩ :: ·) else none
  | [] => some []
  | _ => none
def rTab (row : List Val) : Option Tab := match row with
  | _ :: n :: l => if (l.length + 2) % 4 = 2 ∧ isB n 3 = true then (rCols l).map (fun cs => ⟨n.str, cs⟩) else none
  | _ => none
theorem rTab_two (h n : Val) (l : List Val) : rTab (h :: n :: l) = if (l.length + 2) % 4 = 2 ∧ isB n 3 = true then (rCols l).map (fun cs => ⟨n.str, cs⟩) else none := rfl
def rTabStep (C : Cat) (row : List Val) : Option Cat := match row with
  | [] => none
  | h :: l => if isB h 2 = true then (if h.num = 1 then (match rTab (h :: l) with
      | some t => if C.addTR t = 0 then some (C.addT t) else none
      | none => none) else some C) else none
def rIxStep (C : Cat) (row : List Val) : Option Cat := match row with
  | [_, n, t, c, f] => if isB n 3 = true ∧ isB t 3 = true ∧ isB c 1 = true ∧ isB f 2 = true ∧ (tfind C.T t.str).isSome = true ∧ 0 ≤ c.num ∧ c.num < (colsOf C.T t.str).length ∧ C.addIR n.str t.str ((colsOf C.T t.str)[c.num.toNat]?.getD ⟨⟨#[]⟩, 0, false, false⟩).name = 0 then
      some (C.addI n.str t.str ((colsOf C.T t.str)[c.num.toNat]?.getD ⟨⟨#[]⟩, 0, false, false⟩).name (f.num == 1)) else none
  | _ => none
def isTab (row : List Val) : Bool := match row with
  | h :: _ => h.num == 1
  | [] => false
def rIxStep' (C : Cat) (row : List Val) : Option Cat := if isTab row = true then some C else rIxStep C row
def rRead (rows : List (List Val)) : Option Cat := match foldO rTabStep Cat.empty rows with
  | some C => foldO rIxStep' C rows
  | none => none

/-! the reader's steps -/
theorem take_good {R : Rd} {k : Int} (h : (R.take k).2.bad = false) : R.bad = false ∧ ∃ v l, R.l = v :: l ∧ isB v k = true ∧ R.take k = (v, ⟨l, false⟩) := by
  obtain ⟨l, bad⟩ := R
  cases l with
  | nil => simp [Rd.take] at h
  | cons v l =>
    by_cases hk : v.kind = k
    · have e : (Rd.mk (v :: l) bad).take k = (v, ⟨l, bad || !okV v k⟩) := by unfold Rd.take; simp [hk]
      rw [e] at h ⊢
      simp only [Bool.or_eq_false_iff, Bool.not_eq_false'] at h
      refine ⟨h.1, v, l, rfl, by unfold isB; rw [h.2]; simp [hk], by rw [h.1, h.2]; rfl⟩
    · have e : (Rd.mk (v :: l) bad).take k = (val0, ⟨[], true⟩) := by unfold Rd.take; simp [hk]
      rw [e] at h
      cases h
theorem take_is {v : Val} {k : Int} (h : isB v k = true) (l : List Val) : (Rd.mk (v :: l) false).take k = (v, ⟨l, false⟩) := by
  unfold isB at h
  simp only [Bool.and_eq_true, beq_iff_eq] at h
  unfold Rd.take
  simp [h.1, h.2]
theorem col_good {R : Rd} (h : R.col.2.bad = false) : R.bad = false ∧ ∃ a b c d l, R.l = a :: b :: c :: d :: l ∧ isB a 3 = true ∧ isB b 1 = true ∧ isB c 2 = true ∧ isB d 2 = true ∧ R.col = (⟨a.str, b.num, c.num == 1, d.num == 1⟩, ⟨l, false⟩) := by
  unfold Rd.col at h ⊢
  simp only at h
  obtain ⟨h3, d, l3, e3, i3, t3⟩ := take_good h
  obtain ⟨h2, c, l2, e2, i2, t2⟩ := take_good h3
  obtain ⟨h1, b, l1, e1, i1, t1⟩ := take_good h2
  obtain ⟨h0, a, l0, e0, i0, t0⟩ := take_good h1
  rw [t0] at e1 t1 e2 t2 e3 t3 ⊢
  rw [t1] at e2 t2 e3 t3 ⊢
  rw [t2] at e3 t3 ⊢
  rw [t3]
  simp only at e1 e2 e3
  exact ⟨h0, a, b, c, d, l3, by rw [e0, e1, e2, e3], i0, i1, i2, i3, rfl⟩
theorem cols_good (n : Nat) : ∀ l : List Val, l.length = n → ∀ bad, (Rd.mk l bad).cols.2.bad = false → bad = false ∧ l.length % 4 = 0 ∧ ((∀ c ∈ (Rd.mk l bad).cols.1, 1 ≤ c.ty ∧ c.ty ≤ 3) → rCols l = some (Rd.mk l bad).cols.1) := by
  induction n using Nat.strongRecOn with
  | ind n ih =>
    intro l hn bad h
    cases l with
    | nil =>
      rw [cols_nil (R := ⟨[], bad⟩) rfl] at h ⊢
      exact ⟨h, rfl, fun _ => rfl⟩
    | cons v r =>
      rw [cols_cons (R := ⟨v :: r, bad⟩) (by simp)] at h ⊢
      simp only at h
      have hl := col_len ⟨v :: r, bad⟩
      obtain ⟨hb, _, _⟩ := ih (Rd.mk (v :: r) bad).col.2.l.length (by simp only [List.length_cons] at hl hn; omega) _ rfl _ h
      obtain ⟨h0, a, b, c, d, l', e, i0, i1, i2, i3, ec⟩ := col_good hb
      simp only at h0 e
      subst h0
      rw [ec] at h ⊢
      rw [e] at hn ⊢
      obtain ⟨_, h4, h5⟩ := ih l'.length (by simp at hn; omega) l' rfl false h
      refine ⟨rfl, by simp only [List.length_cons]; omega, fun ht => ?_⟩
      have h6 := h5 (fun c hc => ht c (List.mem_cons_of_mem _ hc))
      have h7 := ht ⟨a.str, b.num, c.num == 1, d.num == 1⟩ (List.mem_cons_self ..)
      unfold rCols
      rw [if_pos ⟨i0, i1, i2, i3, h7.1, h7.2⟩, h6]
      rfl
theorem cols_is (n : Nat) : ∀ l : List Val, l.length = n → ∀ cs, rCols l = some cs → (Rd.mk l false).cols = (cs, ⟨[], false⟩) := by
  induction n using Nat.strongRecOn with
  | ind n ih =>
    intro l hn cs h
    match l, hn, h with
    | [], hn, h =>
      rw [cols_nil rfl]
      simp only [rCols, Option.some.injEq] at h
      rw [h]
    | [_], hn, h => simp [rCols] at h
    | [_, _], hn, h => simp [rCols] at h
    | [_, _, _], hn, h => simp [rCols] at h
    | a :: b :: c :: d :: l, hn, h =>
      unfold rCols at h
      by_cases hh : isB a 3 = true ∧ isB b 1 = true ∧ isB c 2 = true ∧ isB d 2 = true ∧ 1 ≤ b.num ∧ b.num ≤ 3
      · rw [if_pos hh] at h
        obtain ⟨ds, hd, rfl⟩ := Option.map_eq_some_iff.1 h
        have h1 := ih l.length (by simp at hn; omega) l rfl ds hd
        have e : (Rd.mk (a :: b :: c :: d :: l) false).col = (⟨a.str, b.num, c.num == 1, d.num == 1⟩, ⟨l, false⟩) := by
          unfold Rd.col
          simp only [take_is hh.1, take_is hh.2.1, take_is hh.2.2.1, take_is hh.2.2.2.1]
        rw [cols_cons (by simp), e, h1]
      · rw [if_neg hh] at h; cases h
theorem rCols_len (n : Nat) : ∀ l : List Val, l.length = n → ∀ cs, rCols l = some cs → l.length = 4 * cs.length := by
  induction n using Nat.strongRecOn with
  | ind n ih =>
    intro l hn cs h
    match l, hn, h with
    | [], hn, h => simp only [rCols, Option.some.injEq] at h; subst h; rfl
    | [_], hn, h => simp [rCols] at h
    | [_, _], hn, h => simp [rCols] at h
    | [_, _, _], hn, h => simp [rCols] at h
    | a :: b :: c :: d :: l, hn, h =>
      unfold rCols at h
      by_cases hh : isB a 3 = true ∧ isB b 1 = true ∧ isB c 2 = true ∧ isB d 2 = true ∧ 1 ≤ b.num ∧ b.num ≤ 3
      · rw [if_pos hh] at h
        obtain ⟨ds, hd, rfl⟩ := Option.map_eq_some_iff.1 h
        have h1 := ih l.length (by simp at hn; omega) l rfl ds hd
        simp only [List.length_cons]
        omega
      · rw [if_neg hh] at h; cases h
theorem mayB_types {n : ByteArray} {cs : List Col} (h : mayB n cs = true) : ∀ c ∈ cs, 1 ≤ c.ty ∧ c.ty ≤ 3 := by
  intro c hc
  obtain ⟨i, hi, rfl⟩ := List.getElem_of_mem hc
  have h1 := colsOk_at (mayB_len h).2.2.2 (k := i) (x := cs[i]) (by simp)
  unfold colOk at h1
  simp only [Bool.and_eq_true, decide_eq_true_eq] at h1
  exact ⟨h1.1.2, h1.2⟩
theorem addTR_may {C : Cat} {t : Tab} (h : C.addTR t = 0) : mayB t.name t.cols = true := by
  unfold Cat.addTR at h
  cases hm : mayB t.name t.cols with
  | true => rfl
  | false => rw [hm] at h; simp at h
theorem tab_same (C : Cat) (L : List Rd) {h : Val} {l : List Val} (hh : isB h 2 = true) (h1 : h.num = 1) : tabStep (C, L) (h :: l) = (rTabStep C (h :: l)).map (·, L) := by
  unfold tabStep rTabStep
  simp only [take_is hh, if_pos h1, if_pos hh]
  cases l with
  | nil =>
    have e : ((Rd.mk ([] : List Val) false).take 3) = (val0, ⟨[], true⟩) := rfl
    rw [e]
    simp only [rTab, cols_nil (R := ⟨[], true⟩) rfl]
    simp
  | cons n l =>
    by_cases hg : ((Rd.mk (n :: l) false).take 3).2.cols.2.bad = false ∧ C.addTR ⟨((Rd.mk (n :: l) false).take 3).1.str, ((Rd.mk (n :: l) false).take 3).2.cols.1⟩ = 0
    · rw [if_pos hg]
      obtain ⟨g1, g2⟩ := hg
      obtain ⟨hb, g3, g4⟩ := cols_good _ _ rfl _ g1
      obtain ⟨_, v, l', e, i0, t0⟩ := take_good hb
      simp only [List.cons.injEq] at e
      obtain ⟨rfl, rfl⟩ := e
      rw [t0] at g1 g2 g3 g4 ⊢
      simp only at g1 g2 g3 g4 ⊢
      have hm := addTR_may g2
      have g5 := g4 (mayB_types hm)
      rw [rTab_two, if_pos ⟨by omega, i0⟩, g5]
      simp only [Option.map_some, if_pos g2]
    · rw [if_neg hg]
      cases hr : rTab (h :: n :: l) with
      | none => rfl
      | some t =>
        simp only
        by_cases h0 : C.addTR t = 0
        · exfalso
          apply hg
          rw [rTab_two] at hr
          by_cases hc : (l.length + 2) % 4 = 2 ∧ isB n 3 = true
          · rw [if_pos hc] at hr
            obtain ⟨cs, hcs, rfl⟩ := Option.map_eq_some_iff.1 hr
            rw [take_is hc.2]
            simp only [cols_is _ _ rfl _ hcs]
            exact ⟨trivial, h0⟩
          · rw [if_neg hc] at hr; cases hr
        · rw [if_neg h0]; rfl
theorem ix_same (C : Cat) (h : Val) (l : List Val) : rIxStep C (h :: l) = ixStep C ⟨l, false⟩ := by
  unfold ixStep
  simp only
  by_cases hg : ((((Rd.mk l false).take 3).2.take 3).2.take 1).2.take 2 |>.2.bad = false
  · obtain ⟨h3, f, l3, e3, i3, t3⟩ := take_good hg
    obtain ⟨h2, c, l2, e2, i2, t2⟩ := take_good h3
    obtain ⟨h1, t, l1, e1, i1, t1⟩ := take_good h2
    obtain ⟨h0, n, l0, e0, i0, t0⟩ := take_good h1
    rw [t0] at e1 t1 e2 t2 e3 t3
    rw [t1] at e2 t2 e3 t3
    rw [t2] at e3 t3
    simp only at e0 e1 e2 e3
    subst e3; subst e2; subst e1; subst e0
    simp only [t0, t1, t2, t3]
    cases l3 with
    | nil => simp only [rIxStep, i0, i1, i2, i3, true_and, List.length_nil]
    | cons x l4 => simp [rIxStep]
  · rw [if_neg (fun hh => hg hh.1)]
    match l with
    | [n, t, c, f] =>
      simp only [rIxStep]
      refine if_neg (fun hh => hg ?_)
      simp only [take_is hh.1, take_is hh.2.1, take_is hh.2.2.1, take_is hh.2.2.2.1]
    | [] => rfl
    | [_] => rfl
    | [_, _] => rfl
    | [_, _, _] => rfl
    | _ :: _ :: _ :: _ :: _ :: _ => rfl
theorem ixStep_bad {C : Cat} {R : Rd} (h : R.bad = true) : ixStep C R = none := by
  unfold ixStep
  simp only
  refine if_neg (fun hh => ?_)
  obtain ⟨h3, _⟩ := take_good hh.1
  obtain ⟨h2, _⟩ := take_good h3
  obtain ⟨h1, _⟩ := take_good h2
  obtain ⟨h0, _⟩ := take_good h1
  rw [h] at h0; cases h0
theorem fold_bad : ∀ (L : List Rd) (C : Cat) {R : Rd}, R ∈ L → R.bad = true → foldO ixStep C L = none
  | [], _, _, h, _ => by simp at h
  | x :: L, C, R, h, hb => by
    rw [foldO]
    rcases List.mem_cons.1 h with rfl | h
    · rw [ixStep_bad hb]
    · cases hx : ixStep C x with
      | none => rfl
      | some s => exact fold_bad L s h hb
theorem tabStep_keeps {s s' : Cat × List Rd} {row : List Val} (h : tabStep s row = some s') : ∀ R ∈ s.2, R ∈ s'.2 := by
  intro R hR
  unfold tabStep at h
  simp only at h
  split at h
  · split at h
    · simp only [Option.some.injEq] at h; subst h; exact hR
    · cases h
  · simp only [Option.some.injEq] at h; subst h; simp [hR]
theorem fold_keeps : ∀ (rows : List (List Val)) (s s' : Cat × List Rd), foldO tabStep s rows = some s' → ∀ R ∈ s.2, R ∈ s'.2
  | [], s, s', h => by simp only [foldO, Option.some.injEq] at h; subst h; exact fun _ h => h
  | row :: rows, s, s', h => by
    rw [foldO] at h
    cases hx : tabStep s row with
    | none => rw [hx] at h; cases h
    | some s1 =>
      rw [hx] at h
      intro R hR
      exact fold_keeps rows s1 s' h R (tabStep_keeps hx R hR)
/-- the readers that are kept for later -/
def kept (rows : List (List Val)) : List Rd := (rows.filter fun row => !isTab row).map fun row => ⟨row.tail, false⟩
theorem tabs_same : ∀ (rows : List (List Val)) (C : Cat) (L : List Rd), (∃ C', foldO rTabStep C rows = some C' ∧ foldO tabStep (C, L) rows = some (C', L ++ kept rows)) ∨ (foldO rTabStep C rows = none ∧ ∀ s, foldO tabStep (C, L) rows = some s → ∃ R ∈ s.2, R.bad = true)
  | [], C, L => .inl ⟨C, rfl, by simp [foldO, kept]⟩
  | row :: rows, C, L => by
    rw [foldO, foldO]
    cases row with
    | nil =>
      refine .inr ⟨rfl, fun s hs => ?_⟩
      have e : tabStep (C, L) [] = some (C, L ++ [⟨[], true⟩]) := rfl
      rw [e] at hs
      exact ⟨⟨[], true⟩, fold_keeps rows _ _ hs _ (by simp), rfl⟩
    | cons h l =>
      cases hi : isB h 2 with
      | false =>
        refine .inr ⟨by simp [rTabStep, hi], fun s hs => ?_⟩
        cases ht : tabStep (C, L) (h :: l) with
        | none => rw [ht] at hs; cases hs
        | some s1 =>
          rw [ht] at hs
          have hbad : ((Rd.mk (h :: l) false).take 2).2.bad = true := by
            cases hb : ((Rd.mk (h :: l) false).take 2).2.bad with
            | true => rfl
            | false =>
              obtain ⟨_, v, l', e, i0, _⟩ := take_good hb
              simp only [List.cons.injEq] at e
              rw [e.1, i0] at hi; cases hi
          have hin : ((Rd.mk (h :: l) false).take 2).2 ∈ s1.2 := by
            unfold tabStep at ht
            simp only at ht
            split at ht
            · split at ht
              · rename_i hc
                obtain ⟨hb1, _⟩ := cols_good _ _ rfl _ hc.1
                obtain ⟨hb2, _⟩ := take_good hb1
                rw [hbad] at hb2; cases hb2
              · cases ht
            · simp only [Option.some.injEq] at ht; subst ht; simp
          exact ⟨_, fold_keeps rows _ _ hs _ hin, hbad⟩
      | true =>
        by_cases h1 : h.num = 1
        · rw [tab_same C L hi h1]
          cases hr : rTabStep C (h :: l) with
          | none => exact .inr ⟨rfl, fun s hs => by simp at hs⟩
          | some C1 =>
            simp only [Option.map_some]
            have hk : kept ((h :: l) :: rows) = kept rows := by unfold kept; rw [List.filter_cons]; simp [isTab, h1]
            rw [hk]
            exact tabs_same rows C1 L
        · have e1 : rTabStep C (h :: l) = some C := by simp [rTabStep, hi, h1]
          have e2 : tabStep (C, L) (h :: l) = some (C, L ++ [⟨l, false⟩]) := by unfold tabStep; simp only [take_is hi, if_neg h1]
          rw [e1, e2]
          have hk : kept ((h :: l) :: rows) = ⟨l, false⟩ :: kept rows := by unfold kept; rw [List.filter_cons]; simp [isTab, h1]
          rw [hk]
          have := tabs_same rows C (L ++ [⟨l, false⟩])
          rw [List.append_assoc] at this
          exact this
theorem ixs_same : ∀ (rows : List (List Val)) (C : Cat), (∀ row ∈ rows, row ≠ []) → foldO rIxStep' C rows = foldO ixStep C (kept rows)
  | [], C, _ => rfl
  | row :: rows, C, hne => by
    rw [foldO]
    have hrec := fun C => ixs_same rows C (fun r hr => hne r (by simp [hr]))
    cases row with
    | nil => exact absurd rfl (hne [] (by simp))
    | cons h l =>
      unfold rIxStep'
      cases ht : isTab (h :: l) with
      | true =>
        have hk : kept ((h :: l) :: rows) = kept rows := by unfold kept; rw [List.filter_cons]; simp [ht]
        rw [hk, if_pos rfl]
        exact hrec C
      | false =>
        have hk : kept ((h :: l) :: rows) = ⟨l, false⟩ :: kept rows := by unfold kept; rw [List.filter_cons]; simp [ht]
        rw [hk, if_neg (by simp), ix_same, foldO]
        cases ixStep C ⟨l, false⟩ with
        | none => rfl
        | some C1 => exact hrec C1
theorem tabs_full : ∀ (rows : List (List Val)) (C C' : Cat), foldO rTabStep C rows = some C' → ∀ row ∈ rows, row ≠ []
  | [], _, _, _ => by simp
  | row :: rows, C, C', h => by
    rw [foldO] at h
    cases hr : rTabStep C row with
    | none => rw [hr] at h; cases h
    | some C1 =>
      rw [hr] at h
      intro r hrr
      rcases List.mem_cons.1 hrr with rfl | hrr
      · intro e; subst e; simp [rTabStep] at hr
      · exact tabs_full rows C1 C' h r hrr
theorem rRead_eq (rows : List (List Val)) : rRead rows = readC rows := by
  unfold rRead readC
  rcases tabs_same rows Cat.empty [] with ⟨C', h1, h2⟩ | ⟨h1, h2⟩
  · rw [h1, h2]
    simp only [List.nil_append]
    exact ixs_same rows C' (tabs_full rows _ _ h1)
  · rw [h1]
    cases hs : foldO tabStep (Cat.empty, []) rows with
    | none => rfl
    | some s =>
      obtain ⟨R, hR, hb⟩ := h2 s hs
      exact (fold_bad s.2 s.1 hR hb).symm
end Go.Proofs.Ytpiijcjbphpffaa
