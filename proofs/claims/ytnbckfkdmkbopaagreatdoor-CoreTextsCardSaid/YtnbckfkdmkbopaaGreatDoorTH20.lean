/-
  What a bound condition comes to over a row, in plain Lean; of what type it is. No condition beyond each lemma's own.
  Binding: columns. No condition beyond each lemma's own.
  Binding: trees with kids, in plain Lean; lists of trees. No condition beyond each lemma's own.
-/
import Derived.Test.YtnbckfkdmkbopaaGreatDoorTH03
import Derived.RowKit
import Derived.Test.YtnbckfkdmkbopaaGreatDoorTH19
set_option autoImplicit false
namespace Go.Proofs.YtnbckfkdmkbopaaGreatDoor
open Go

def truthV (b : Bool) : Val := ⟨2, if b then 1 else 0, []⟩
def intV (n : Int) : Val := ⟨1, n, []⟩
def Val.isV (a b : Val) : Bool := a.kind == b.kind && a.num == b.num && a.str == b.str
theorem Val.isV_iff {a b : Val} : a.isV b = true ↔ a = b := by
  obtain ⟨k, n, s⟩ := a; obtain ⟨k', n', s'⟩ := b
  simp [Val.isV, and_assoc]
def sgnI (a b : Int) : Int := if a < b then -1 else if b < a then 1 else 0
def ltS : Str → Str → Bool
  | _, [] => false
  | [], _ :: _ => true
  | a :: l, b :: r => if a < b then true else if b < a then false else ltS l r
def sgnS (a b : Str) : Int := if ltS a b then -1 else if ltS b a then 1 else 0
/-- the first that is not 0 -/
def orI (a b c : Int) : Int := if a = 0 then (if b = 0 then c else b) else a
def cmpV (a b : Val) : Int := orI (sgnI a.kind b.kind) (sgnI a.num b.num) (sgnS a.str b.str)
/-- what a comparison's kind says of the order -/
def cmpB (k c : Int) : Bool :=
  if k == 10 then c == 0 else if k == 11 then !(c == 0) else if k == 12 then decide (c < 0) else if k == 13 then decide (c ≤ 0) else if k == 14 then decide (0 < c) else decide (0 ≤ c)
/-- a number, or an error's number: 35 overflow, 36 division by 0 -/
def numL2 (k a b : Int) : Except Int Int :=
  let w : Int → Int := RowKit.wrap64
  if k == 5 then (if decide (a < w (a + b)) == decide (0 < b) then .ok (w (a + b)) else .error 35)
  else if k == 6 then (if decide (w (a - b) < a) == decide (0 < b) then .ok (w (a - b)) else .error 35)
  else if k == 7 then (if a == 0 || ((w ((w (a * b)).tdiv a)) == b && !(a == -1 && b == -9223372036854775808)) then .ok (w (a * b)) else .error 35)
  else if b == 0 then .error 36
  else if b == -1 then (if k == 9 then .ok 0 else if a == -9223372036854775808 then .error 35 else .ok (w (-a)))
  else if k == 9 then .ok (a.tmod b) else .ok (w (a.tdiv b))
/-- the first error stays -/
def fstE (e q : Int) : Int := if e = 0 then q else e
def findV (row : List Val) : Ex → Int → Val × Int
  | .val v, e => (v, e)
  | .slot i, e => (row.getD i.toNat Val.null, e)
  | .col _ _, e => (Val.null, fstE e 32)
  | .cnt, e => (Val.null, fstE e 1)
  | .un k a, e =>
    match findV row a e with
    | (v, e1) =>
      if k == 18 then (truthV (v.kind == 0), e1)
      else if k == 19 then (truthV (!(v.kind == 0)), e1)
      else if v.kind == 0 then (v, e1)
      else if k == 4 then (truthV (v.num == 0), e1)
      else if v.num == -9223372036854775808 then (Val.null, fstE e1 35)
      else (intV (RowKit.wrap64 (-v.num)), e1)
  | .bin k a b, e =>
    match findV row a e with
    | (v, e1) =>
      if 16 ≤ k then
        if e1 ≠ 0 then (v, e1)
        else if v.isV (truthV (k == 17)) then (v, e1)
        else
          match findV row b e1 with
          | (u, e2) => if u.isV (truthV (k == 17)) then (u, e2) else if v.kind == 0 then (v, e2) else (u, e2)
      else
        match findV row b e1 with
        | (u, e2) =>
          if e2 ≠ 0 then (Val.null, e2)
          else if v.kind == 0 || u.kind == 0 then (Val.null, e2)
          else if k ≤ 9 then
            match numL2 k v.num u.num with
            | .ok n => (intV n, e2)
            | .error q => (Val.null, q)
          else (truthV (cmpB k (cmpV v u)), e2)
/-- the value, and the error -/
def evalV (row : List Val) (x : Ex) : Val × Int :=
  match findV row x 0 with
  | (v, e) => if e = 0 then (v, 0) else (Val.null, e)
/-- does it hold, and the error -/
def holdsV (row : List Val) (x : Ex) : Bool × Int :=
  match findV row x 0 with
  | (v, e) => (decide (e = 0) && v.kind == 2 && v.num == 1, e)

/-! types -/
def rowOk (cs : List Bcol) (row : List Val) : Prop := row.length = cs.length ∧ ∀ (i : Nat) (v : Val) (c : Bcol), row[i]? = some v → cs[i]? = some c → okV v = true ∧ (v.kind = 0 ∨ v.kind = c.ty)
/-- a bound tree's type -/
def tyL (cs : List Bcol) : Ex → Option Int
  | .val v => if okV v then some v.kind else none
  | .slot i => if 0 ≤ i then (cs[i.toNat]?).map Bcol.ty else none
  | .col _ _ => none
  | .cnt => none
  | .un k a => if unK k then (match tyL cs a with | none => none | some t => typedL k [t]) else none
  | .bin k a b => if binK k then (match tyL cs a with | none => none | some t => (match tyL cs b with | none => none | some s => typedL k [t, s])) else none
theorem places_get {t n : Str} : ∀ (cs : List Bcol) (k : Nat) (i : Nat) (ty : Int), (i, ty) ∈ places t n cs k → k ≤ i ∧ ∃ c, cs[i - k]? = some c ∧ c.ty = ty
  | [], _, _, _, h => by simp [places] at h
  | c :: cs, k, i, ty, h => by
    simp only [places] at h
    have hr : (i, ty) ∈ places t n cs (k + 1) → k ≤ i ∧ ∃ d, (c :: cs)[i - k]? = some d ∧ d.ty = ty := fun h => by
      obtain ⟨h1, d, h2, h3⟩ := places_get cs (k + 1) i ty h
      refine ⟨by omega, d, ?_, h3⟩
      rw [show i - k = (i - (k + 1)) + 1 by omega]
      simpa using h2
    split at h
    · rcases List.mem_cons.1 h with h | h
      · cases h; exact ⟨Nat.le_refl _, c, by simp, rfl⟩
      · exact hr h
    · exact hr h
theorem findL_get {t n : Str} {cs : List Bcol} {i : Nat} {ty : Int} (h : findL t n cs = some (i, ty)) : ∃ c, cs[i]? = some c ∧ c.ty = ty := by
  unfold findL at h
  split at h
  · rename_i x hx
    have : (i, ty) ∈ places t n cs 0 := by rw [hx]; simp_all
    simpa using (places_get cs 0 i ty this).2
  · cases h
theorem bind_ty (cs : List Bcol) : ∀ (x y : Ex) (t : Int), bindL cs x = some (y, t) → tyL cs y = some t
  | .val v, y, t, h => by
    simp only [bindL] at h
    split at h
    · rename_i hv; cases h; simp [tyL, hv]
    · cases h
  | .col a n, y, t, h => by
    simp only [bindL] at h
    split at h
    · cases h
    · rename_i i ty hf
      cases h
      obtain ⟨c, hc, rfl⟩ := findL_get hf
      simp [tyL, hc]
  | .slot _, y, t, h => by simp [bindL] at h
  | .cnt, y, t, h => by simp [bindL] at h
  | .un k a, y, t, h => by
    simp only [bindL] at h
    split at h
    · rename_i hk
      split at h
      · cases h
      · rename_i z s ha
        split at h
        · cases h
        · rename_i u hu
          cases h
          simp [tyL, hk, bind_ty cs a z s ha, hu]
    · cases h
  | .bin k a b, y, t, h => by
    simp only [bindL] at h
    split at h
    · rename_i hk
      split at h
      · cases h
      · rename_i z s ha
        split at h
        · cases h
        · rename_i z2 s2 hb
          split at h
          · cases h
          · rename_i u hu
            cases h
            simp [tyL, hk, bind_ty cs a z s ha, bind_ty cs b z2 s2 hb, hu]
    · cases h
theorem bind_hgt (cs : List Bcol) : ∀ (x y : Ex) (t : Int), bindL cs x = some (y, t) → y.hgt = x.hgt
  | .val v, y, t, h => by
    simp only [bindL] at h
    split at h
    · cases h; rfl
    · cases h
  | .col a n, y, t, h => by
    simp only [bindL] at h
    split at h
    · cases h
    · cases h; rfl
  | .slot _, y, t, h => by simp [bindL] at h
  | .cnt, y, t, h => by simp [bindL] at h
  | .un k a, y, t, h => by
    simp only [bindL] at h
    split at h
    · split at h
      · cases h
      · rename_i z s ha
        split at h
        · cases h
        · cases h
          simp [Ex.hgt, bind_hgt cs a z s ha]
    · cases h
  | .bin k a b, y, t, h => by
    simp only [bindL] at h
    split at h
    · split at h
      · cases h
      · rename_i z s ha
        split at h
        · cases h
        · rename_i z2 s2 hb
          split at h
          · cases h
          · cases h
            simp [Ex.hgt, bind_hgt cs a z s ha, bind_hgt cs b z2 s2 hb]
    · cases h
theorem only_two {t a b : Int} (h : only t [a, b] = true) : (a = t ∨ a = 0) ∧ (b = t ∨ b = 0) := by
  simpa [only] using h
theorem only_one {t a : Int} (h : only t [a] = true) : a = t ∨ a = 0 := by
  simpa [only] using h
/-- what a value that is found is: of kind 0, or of the type; it may be -/
def Fits (t : Int) (v : Val) : Prop := okV v = true ∧ (v.kind = 0 ∨ v.kind = t)
theorem okV_null : okV Val.null = true := rfl
theorem okV_truth (b : Bool) : okV (truthV b) = true := by cases b <;> rfl
theorem okV_int (n : Int) : okV (intV n) = true := rfl
theorem Fits.null (t : Int) : Fits t Val.null := ⟨rfl, .inl rfl⟩
theorem Fits.truth (b : Bool) : Fits 2 (truthV b) := ⟨okV_truth b, .inr rfl⟩
theorem Fits.int (n : Int) : Fits 1 (intV n) := ⟨rfl, .inr rfl⟩
theorem Fits.of0 {t s : Int} {v : Val} (h : Fits t v) (h0 : v.kind = 0) : Fits s v := ⟨h.1, .inl h0⟩
theorem fits_find (cs : List Bcol) (row : List Val) (hr : rowOk cs row) : ∀ (y : Ex) (t : Int) (e : Int), tyL cs y = some t → Fits t (findV row y e).1
  | .val v, t, e, h => by
    simp only [tyL] at h
    split at h
    · rename_i hv; cases h; exact ⟨hv, .inr rfl⟩
    · cases h
  | .slot i, t, e, h => by
    simp only [tyL] at h
    split at h
    · obtain ⟨c, hc, rfl⟩ := Option.map_eq_some_iff.1 h
      have hl := (List.getElem?_eq_some_iff.1 hc).1
      have hv : row[i.toNat]? = some (row[i.toNat]'(by have := hr.1; omega)) := List.getElem?_eq_getElem _
      simp only [findV, List.getD, hv, Option.getD_some]
      exact hr.2 _ _ _ hv hc
    · cases h
  | .col _ _, t, e, h => by simp [tyL] at h
  | .cnt, t, e, h => by simp [tyL] at h
  | .un k a, t, e, h => by
    simp only [tyL] at h
    split at h
    · rename_i hk
      split at h
      · cases h
      · rename_i s ha
        have ih := fits_find cs row hr a s e ha
        simp only [findV]
        obtain ⟨⟨v, e1⟩, hf⟩ : ∃ q, findV row a e = q := ⟨_, rfl⟩
        rw [hf] at ih ⊢
        simp only at ih ⊢
        have hk' : k = 3 ∨ k = 4 ∨ k = 18 ∨ k = 19 := by simpa [unK, or_assoc] using hk
        rcases hk' with rfl | rfl | rfl | rfl
        · simp [typedL] at h
          simp
          rw [← h.2]
          split
          · rename_i h0; exact ih.of0 (by simpa using h0)
          · split
            · exact Fits.null _
            · exact Fits.int _
        · simp [typedL] at h
          simp
          rw [← h.2]
          split
          · rename_i h0; exact ih.of0 (by simpa using h0)
          · exact Fits.truth _
        · simp [typedL] at h
          simp
          rw [← h]
          exact Fits.truth _
        · simp [typedL] at h
          simp
          rw [← h]
          exact Fits.truth _
    · cases h
  | .bin k a b, t, e, h => by
    simp only [tyL] at h
    split at h
    · rename_i hk
      split at h
      · cases h
      · rename_i s ha
        split at h
        · cases h
        · rename_i s2 hb
          have ih := fits_find cs row hr a s e ha
          simp only [findV]
          obtain ⟨⟨v, e1⟩, hf⟩ : ∃ q, findV row a e = q := ⟨_, rfl⟩
          rw [hf] at ih ⊢
          simp only at ih ⊢
          have ih2 := fits_find cs row hr b s2 e1 hb
          obtain ⟨⟨u, e2⟩, hf2⟩ : ∃ q, findV row b e1 = q := ⟨_, rfl⟩
          rw [hf2] at ih2 ⊢
          simp only at ih2 ⊢
          have hk' : 5 ≤ k ∧ k ≤ 17 := by simpa [binK] using hk
          by_cases h16 : 16 ≤ k
          · have hk2 : k = 16 ∨ k = 17 := by omega
            have ht : only 2 [s, s2] = true ∧ t = 2 := by
              rcases hk2 with rfl | rfl <;> simp [typedL] at h <;> exact ⟨h.1, h.2.symm⟩
            obtain ⟨ho, rfl⟩ := ht
            obtain ⟨h1, h2⟩ := only_two ho
            have f1 : Fits 2 v := ⟨ih.1, by rcases h1 with rfl | rfl <;> rcases ih.2 with h | h <;> simp [h]⟩
            have f2 : Fits 2 u := ⟨ih2.1, by rcases h2 with rfl | rfl <;> rcases ih2.2 with h | h <;> simp [h]⟩
            rw [if_pos h16]
            split
            · exact f1
            · split
              · exact f1
              · split
                · exact f2
                · split
                  · exact f1
                  · exact f2
          · rw [if_neg h16]
            split
            · exact Fits.null _
            · split
              · exact Fits.null _
              · by_cases h9 : k ≤ 9
                · have ht : t = 1 := by
                    have : (decide (5 ≤ k) && decide (k ≤ 9)) = true := by simp [hk'.1, h9]
                    simp [typedL, this] at h
                    exact h.2.symm
                  subst ht
                  rw [if_pos h9]
                  split
                  · exact Fits.int _
                  · exact Fits.null _
                · have ht : t = 2 := by
                    have n1 : ¬ k = 3 := by omega
                    have n2 : ¬ k = 4 := by omega
                    have n3 : ¬ k = 16 := by omega
                    have n4 : ¬ k = 17 := by omega
                    have n5 : ¬ k = 18 := by omega
                    have n6 : ¬ k = 19 := by omega
                    simp [typedL, n1, n2, n3, n4, n5, n6, h9] at h
                    exact h.2.symm
                  subst ht
                  rw [if_neg h9]
                  exact Fits.truth _
    · cases h
end Go.Proofs.YtnbckfkdmkbopaaGreatDoor

set_option autoImplicit false
namespace Go.Proofs.YtnbckfkdmkbopaaGreatDoor
open Go Go.RowKit

set_option maxRecDepth 100000 in
set_option maxHeartbeats 2000000 in
theorem bind_col (cs : List Bcol) (t n : Str) (F : Nat → Prop) (ao : Option Addr) (cap : Nat) (w : World) (hm : cs.length ≤ 100000) (hcs : BcolsAt w F (.slice ao cs.length cap) cs) : Calls Tryz.prog 17 #[ExF.val ⟨2, 0, 0, [], t, n, 0, none, 0, 0⟩, .slice ao cs.length cap] w (BOut (bindL cs (.col t n)) w) := by
  obtain ⟨q, hq⟩ : ∃ q, findL t n cs = q := ⟨_, rfl⟩
  have HQ := Lib.hid hq
  have HC := Lib.hid hcs
  clear hq hcs
  have hk : Hid (kidsN 2 = 0) := Lib.hid rfl
  have hag : Hid (aggB 2 = false) := Lib.hid rfl
  go_enter Tryz.func17, Tryz.ntmps17
  go_wp2_with fail
  refine (aggregate_any 2 _).mono ?_
  rintro e w' ⟨rfl, rfl⟩
  rw [hag.out]
  go_wp2_with fail
  go_quiet ((go_at_call 43; rw [← hk.out]; exact quiet_g ⟨_, rfl⟩ (bkids_any 2 _)))
  have X0 : Hid (Chg NoB w ((((w.alloc (ExF.obj ⟨2, 0, 0, [], t, n, 0, none, 0, 0⟩)).alloc zeroE.obj).drewN nq))) := Lib.hid ((((Chg.refl NoB w).alloc _).alloc _).drewN _)
  have A0 : Hid ((((w.alloc (ExF.obj ⟨2, 0, 0, [], t, n, 0, none, 0, 0⟩)).alloc zeroE.obj).drewN nq).heap[w.heap.size]? = some (ExF.obj ⟨2, 0, 0, [], t, n, 0, none, 0, 0⟩)) := Lib.hid ((hal_old (by simp)).trans hal_new)
  have Z0 : Hid ((((w.alloc (ExF.obj ⟨2, 0, 0, [], t, n, 0, none, 0, 0⟩)).alloc zeroE.obj).drewN nq).heap[w.heap.size + 1]? = some zeroE.obj) := Lib.hid (hal_new' (by simp))
  have C0 := Lib.hid (HC.out.quiet X0.out)
  go_wp2_with fail
  refine (find_any t n cs F ao cap _ hm C0.out).mono ?_
  rintro e w2 ⟨c2, ho⟩
  have X2 := Lib.hid (X0.out.trans c2 (fun k h => h.elim))
  have Z2 := Lib.hid (c2.heap Z0.out (fun h => h))
  have C2 := Lib.hid (C0.out.quiet c2)
  clear c2
  obtain ⟨z0, z1, z2, z3, z4, z5, z6, z7⟩ := ExCells.of Z2.out
  have fz : ∀ o, w2.frozen? ⟨w.heap.size + 1, o, none⟩ = false := fun o => frozen_of_row w2 _ o _ _ Z2.out
  rw [HQ.out] at ho
  rcases q with _ | ⟨i, ty⟩
  · obtain ⟨er, her, rfl⟩ := ho
    have hnb : (er == 0) = false := by simpa using her
    go_wp2
    exact ex_ret3 zeroE rfl rfl Z2.out (fun w' c => BOut.no (q := er) (by simp only [bindL]; rw [HQ.out]) (X2.out.trans c (fun k h => .inr (by unfold OneP at h; omega))) her)
  · obtain rfl := ho
    obtain ⟨c, hc, hty⟩ := findL_get HQ.out
    obtain ⟨hlt, _⟩ := List.getElem?_eq_some_iff.1 hc
    obtain ⟨b, o, rfl, hb, hF, hr⟩ := bcol_at HC.out hc
    have hr' := range_of_heap (X2.out.keep b hb (fun h => h)) hr
    have a2 : w2.cell? ⟨b, o + i * 3 + 2, none⟩ = some (.int .i64 ty) := by rw [← hty]; exact hr' 2 _ rfl
    have hne : ¬ w.heap.size + 1 = b := by omega
    have hne2 : ¬ b = w.heap.size + 1 := by omega
    have HB : Hid (bindL cs (.col t n) = some (.slot i, ty)) := Lib.hid (by simp only [bindL]; rw [HQ.out])
    clear hc hty hr hr'
    go_wp2_with fail
    go_region
    go_wp2
    exact ex_ret3d ⟨24, 0, 0, [], [], [], i, none, 0, 0⟩ rfl rfl Z2.out (fun w' c => BOut.yes (y := .slot i) HB.out (X2.out.trans c (fun k h => .inr (by unfold OneP at h; omega))) rfl)
end Go.Proofs.YtnbckfkdmkbopaaGreatDoor

set_option autoImplicit false
namespace Go.Proofs.YtnbckfkdmkbopaaGreatDoor
open Go Go.RowKit

def bkL (cs : List Bcol) : List Ex → Option (List (Ex × Int))
  | [] => some []
  | x :: l =>
    match bindL cs x with
    | none => none
    | some p =>
      match bkL cs l with
      | none => none
      | some r => some (p :: r)
def mkX (k : Int) : List (Ex × Int) → Ex
  | [a] => .un k a.1
  | [a, b] => .bin k a.1 b.1
  | _ => .cnt
def bkOut (cs : List Bcol) (k : Int) (kids : List Ex) : Option (Ex × Int) :=
  match bkL cs kids with
  | none => none
  | some l =>
    match typedL k (l.map Prod.snd) with
    | none => none
    | some t => some (mkX k l, t)
theorem bkL_snoc (cs : List Bcol) (y : Ex) : ∀ (l : List Ex), bkL cs (l ++ [y]) = match bkL cs l with
    | none => none
    | some r =>
      match bindL cs y with
      | none => none
      | some p => some (r ++ [p])
  | [] => by
    simp only [List.nil_append, bkL]
    try (cases bindL cs y <;> rfl)
  | x :: l => by
    simp only [List.cons_append, bkL, bkL_snoc cs y l]
    cases bindL cs x with
    | none => rfl
    | some p =>
      cases bkL cs l with
      | none => rfl
      | some r =>
        cases bindL cs y with
        | none => rfl
        | some q => rfl
theorem bkL_len (cs : List Bcol) : ∀ (l : List Ex) (r : List (Ex × Int)), bkL cs l = some r → r.length = l.length
  | [], r, h => by simp only [bkL] at h; cases h; rfl
  | x :: l, r, h => by
    simp only [bkL] at h
    split at h
    · cases h
    · split at h
      · cases h
      · rename_i r' hr; cases h; simp [bkL_len cs l r' hr]
theorem bkL_none (cs : List Bcol) {l : List Ex} {j : Nat} {y : Ex} (hy : l[j]? = some y) (h : bindL cs y = none) : bkL cs l = none := by
  induction l generalizing j with
  | nil => simp at hy
  | cons x l ih =>
    simp only [bkL]
    match j with
    | 0 => simp at hy; subst hy; rw [h]
    | j + 1 =>
      rw [ih (by simpa using hy)]
      cases bindL cs x <;> rfl
theorem kidsN_un {k : Int} (h : kidsN k = 1) : unK k = true := by
  unfold kidsN at h
  split at h
  · cases h
  · split at h
    · assumption
    · split at h <;> cases h
theorem kidsN_bin {k : Int} (h : kidsN k = 2) : binK k = true := by
  unfold kidsN at h
  split at h
  · cases h
  · split at h
    · cases h
    · split at h
      · assumption
      · cases h
theorem bind_kids_eq (cs : List Bcol) {x : Ex} (h0 : 0 < x.kids.length) (hk : (x.kids.length : Int) = kidsN x.kind) : bindL cs x = bkOut cs x.kind x.kids := by
  cases x with
  | val v => simp [Ex.kids] at h0
  | col t n => simp [Ex.kids] at h0
  | slot n => simp [Ex.kids] at h0
  | cnt => simp [Ex.kids] at h0
  | un k a =>
    simp only [Ex.kids, Ex.kind, List.length_singleton] at hk
    have hu := kidsN_un (k := k) (by omega)
    simp only [bindL, hu, bkOut, bkL, Ex.kids, Ex.kind]
    cases bindL cs a with
    | none => rfl
    | some p => obtain ⟨y, t⟩ := p; simp [mkX]; cases typedL k [t] <;> rfl
  | bin k a b =>
    simp only [Ex.kids, Ex.kind, List.length_cons, List.length_nil] at hk
    have hu := kidsN_bin (k := k) (by omega)
    simp only [bindL, hu, bkOut, bkL, Ex.kids, Ex.kind]
    cases bindL cs a with
    | none => rfl
    | some p =>
      obtain ⟨y, t⟩ := p
      cases bindL cs b with
      | none => rfl
      | some q => obtain ⟨z, s⟩ := q; simp [mkX]; cases typedL k [t, s] <;> rfl
theorem bind_none (cs : List Bcol) {x : Ex} (hk : aggB x.kind = true ∨ ¬ (x.kids.length : Int) = kidsN x.kind) (h0 : 0 < x.kids.length) : bindL cs x = none := by
  cases x with
  | val v => simp [Ex.kids] at h0
  | col t n => simp [Ex.kids] at h0
  | slot n => simp [Ex.kids] at h0
  | cnt => rfl
  | un k a =>
    simp only [Ex.kids, Ex.kind, List.length_singleton] at hk
    have : unK k = false := by
      rcases hk with hk | hk
      · simp [aggB] at hk; simp [unK]; omega
      · cases hu : unK k with
        | false => rfl
        | true =>
          exfalso; apply hk
          have : ¬ (k = 1 ∨ k = 2) := by intro h; simp [unK] at hu; omega
          unfold kidsN; rw [if_neg this, if_pos hu]; rfl
    simp [bindL, this]
  | bin k a b =>
    simp only [Ex.kids, Ex.kind, List.length_cons, List.length_nil] at hk
    have : binK k = false := by
      rcases hk with hk | hk
      · simp [aggB] at hk; simp [binK]; omega
      · cases hu : binK k with
        | false => rfl
        | true =>
          exfalso; apply hk
          have h1 : ¬ (k = 1 ∨ k = 2) := by intro h; simp [binK] at hu; omega
          have h2 : ¬ unK k = true := by intro h; simp [binK] at hu; simp [unK] at h; omega
          unfold kidsN; rw [if_neg h1, if_neg h2, if_pos hu]; rfl
    simp [bindL, this]

/-! lists of trees in memory -/
def exCells (Es : List ExF) : List Value := Es.flatMap fun E => ExF.cells E
theorem exCells_len (Es : List ExF) : (exCells Es).length = Es.length * 8 := flatMap_len _ _ _ fun _ _ => rfl
theorem exCells_one (Es : List ExF) : ∀ u ∈ exCells Es, u.oneCell' = true := by
  intro u hu
  obtain ⟨c, _, hc⟩ := List.mem_flatMap.1 hu
  exact c.one u hc
def TreesAt (w : World) (F : Nat → Prop) (l : List (Ex × Int)) (Es : List ExF) : Prop := l.length = Es.length ∧ ∀ (i : Nat) (p : Ex × Int) (E : ExF), l[i]? = some p → Es[i]? = some E → ExAt w F p.1 E
theorem TreesAt.chg {w w' : World} {F G : Nat → Prop} {l : List (Ex × Int)} {Es : List ExF} (h : TreesAt w F l Es) (c : Chg G w w') (hd : ∀ k, F k → ¬ G k) : TreesAt w' F l Es :=
  ⟨h.1, fun i p E hp hE => ExAt.chg c hd _ _ (h.2 i p E hp hE)⟩
theorem TreesAt.mono {w : World} {F G : Nat → Prop} {l : List (Ex × Int)} {Es : List ExF} (h : TreesAt w F l Es) (hG : ∀ k, F k → k < w.heap.size → G k) : TreesAt w G l Es :=
  ⟨h.1, fun i p E hp hE => ExAt.mono hG _ _ (h.2 i p E hp hE)⟩
theorem TreesAt.snoc {w : World} {F : Nat → Prop} {l : List (Ex × Int)} {Es : List ExF} (h : TreesAt w F l Es) {p : Ex × Int} {E : ExF} (hp : ExAt w F p.1 E) : TreesAt w F (l ++ [p]) (Es ++ [E]) := by
  refine ⟨by simp [h.1], fun i q D hq hD => ?_⟩
  by_cases hi : i < l.length
  · rw [List.getElem?_append_left hi] at hq
    rw [List.getElem?_append_left (by rw [← h.1]; exact hi)] at hD
    exact h.2 i q D hq hD
  · have hi2 : i = l.length := by have := (List.getElem?_eq_some_iff.1 hq).1; simp at this; omega
    subst hi2
    rw [List.getElem?_append_right (Nat.le_refl _), Nat.sub_self] at hq
    rw [List.getElem?_append_right (by rw [h.1]; exact Nat.le_refl _), h.1, Nat.sub_self] at hD
    simp at hq hD
    subst hq; subst hD
    exact hp
/-- a node over trees that lie one behind the other -/
theorem node_at {w : World} {F : Nat → Prop} {k : Int} {l : List (Ex × Int)} {Es : List ExF} {g c : Nat} (h : TreesAt w F l Es) (hl : l.length = 1 ∨ l.length = 2) (hb : g < w.heap.size) (hF : F g) (hr : w.rangeAt g 0 (exCells Es)) :
    ExAt w F (mkX k l) ⟨k, 0, 0, [], [], [], 0, some ⟨g, 0, none⟩, l.length, c⟩ := by
  obtain ⟨h1, h2⟩ := h
  match l, Es, hl, h1 with
  | [a], [A], _, _ => exact ⟨g, c, A, rfl, hb, hF, by simpa [exCells] using hr, h2 0 _ _ rfl rfl⟩
  | [a, b], [A, B], _, _ => exact ⟨g, c, A, B, rfl, hb, hF, by simpa [exCells] using hr, h2 0 _ _ rfl rfl, h2 1 _ _ rfl rfl⟩
  | [], _, hl, _ => simp at hl
  | _ :: _ :: _ :: _, _, hl, _ => simp at hl
end Go.Proofs.YtnbckfkdmkbopaaGreatDoor
