/-
  Evaluation: find, Eval, Holds. No condition beyond each lemma's own.
  What a plan reads, in plain Lean; a row that it does not read is none of which the condition holds, nor has an error. No condition beyond each lemma's own.
-/
import Derived.Test.YtnbckfkdmkbopaaGreatDoorTH25
import Derived.Test.YtnbckfkdmkbopaaGreatDoorTH20
set_option autoImplicit false
namespace Go.Proofs.YtnbckfkdmkbopaaGreatDoor
open Go Go.RowKit

theorem ekidsN_un {k : Int} (h : unK k = true) : ekidsN k = 1 := by
  have hk : k = 3 ∨ k = 4 ∨ k = 18 ∨ k = 19 := by simpa [unK, or_assoc] using h
  rcases hk with rfl | rfl | rfl | rfl <;> rfl
theorem ekidsN_bin {k : Int} (h : binK k = true) : ekidsN k = 2 := by
  have hk : 5 ≤ k ∧ k ≤ 17 := by simpa [binK] using h
  have h1 : ¬ (k = 1 ∨ k = 24 ∨ k = 2) := by omega
  have h2 : unK k = false := by simp [unK]; omega
  unfold ekidsN
  rw [if_neg h1, h2, h]
  rfl
theorem vfind_any (cs : List Bcol) (row : List Val) (hrow : rowOk cs row) (p : Nat) (ao : Option Addr) (cap : Nat) : ∀ (y : Ex) (t : Int), tyL cs y = some t → FindOk row p (.slice ao row.length cap) y
  | .val v, t, h => by
    intro E e0 w hx hf hr
    subst hx
    simp only [tyL] at h
    split at h
    · rename_i hv
      exact find_call p ⟨1, v.kind, v.num, v.str, [], [], 0, none, 0, 0⟩ 56 rfl (by show (0 : Nat) ≤ 2; omega) rfl _ e0 w _ hf fun w' c => leaf_val p v _ e0 w' (FnAt.quiet hf c) hv
    · cases h
  | .slot i, t, h => by
    intro E e0 w hx hf hr
    subst hx
    simp only [tyL] at h
    split at h
    · rename_i hi
      obtain ⟨c, hc, rfl⟩ := Option.map_eq_some_iff.1 h
      have hl := (List.getElem?_eq_some_iff.1 hc).1
      have hv : row[i.toNat]? = some (row[i.toNat]'(by have := hrow.1; omega)) := List.getElem?_eq_getElem _
      obtain ⟨n, rfl⟩ := Int.eq_ofNat_of_zero_le hi
      simp only [Int.toNat_natCast] at hv hc hl
      have hfd : findV row (.slot (n : Int)) e0 = (row[n]'(by have := hrow.1; omega), e0) := by
        simp only [findV, Int.toNat_natCast, List.getD, hv, Option.getD_some]
      rw [hfd]
      exact find_call p ⟨24, 0, 0, [], [], [], n, none, 0, 0⟩ 56 rfl (by show (0 : Nat) ≤ 2; omega) rfl _ e0 w _ hf fun w' c => leaf_slot p n row _ (NotP p) ao cap e0 w' (FnAt.quiet hf c) (RowAt.quiet hr c) hv (hrow.2 _ _ _ hv hc).1
    · cases h
  | .col _ _, t, h => by simp [tyL] at h
  | .cnt, t, h => by simp [tyL] at h
  | .un k a, t, h => by
    intro E e0 w hx hf hr
    simp only [tyL] at h
    split at h
    · rename_i hk
      split at h
      · cases h
      · rename_i s hs
        have hx' := hx
        obtain ⟨b, q, A, rfl, _⟩ := hx
        refine find_call p _ 57 rfl (by show (1 : Nat) ≤ 2; omega) (ekidsN_un hk).symm _ e0 w _ hf fun w' c => ?_
        exact one_any cs row hrow p _ k a t s hk hs h (vfind_any cs row hrow p ao cap a s hs) _ e0 w' (hx'.quiet c) (FnAt.quiet hf c) (RowAt.quiet hr c)
    · cases h
  | .bin k a b, t, h => by
    intro E e0 w hx hf hr
    simp only [tyL] at h
    split at h
    · rename_i hk
      split at h
      · cases h
      · rename_i s hs
        split at h
        · cases h
        · rename_i s2 hs2
          have hx' := hx
          obtain ⟨bb, q, A, B, rfl, _⟩ := hx
          refine find_call p _ 58 rfl (by show (2 : Nat) ≤ 2; omega) (ekidsN_bin hk).symm _ e0 w _ hf fun w' c => ?_
          exact two_any cs row hrow p _ k a b t s s2 hk hs hs2 h (vfind_any cs row hrow p ao cap a s hs) (vfind_any cs row hrow p ao cap b s2 hs2) _ e0 w' (hx'.quiet c) (FnAt.quiet hf c) (RowAt.quiet hr c)
    · cases h
theorem val_ret3E {fn : Func} {Q : Ending → World → Prop} {tmps : Array Value} {w : World} {b q r : Nat} {Z : Val} (V : Val) (hres : fn.results = #[.cell q 26, .tmp r]) (hq : tmps.getD q undef = .pointer (some ⟨b, 0, none⟩))
    (hb : w.heap[b]? = some Z.obj) (hQ : ∀ w', Chg (OneP b) w w' → Q (.returned (.tuple #[V.val, tmps.getD r undef])) w') :
    bodyPost Tryz.prog fn Q Exit.ret ⟨tmps, []⟩ (((w.setCell ⟨b, 0, none⟩ (.int .i64 V.kind)).setCell ⟨b, 1, none⟩ (.int .i64 V.num)).setCell ⟨b, 2, none⟩ (sv V.str)) :=
  bodyPost_ret (v := .tuple #[V.val, tmps.getD r undef]) (results_big2 (P := Tryz.prog) hres tmps _ b V.cells _ hq (range_block (val_set hb V)) Tryz.underlying26 rfl (by kernel_rfl)) rfl (hQ _ (chg_set3 _ _ _))
theorem val_ret3Ea {fn : Func} {Q : Ending → World → Prop} {tmps : Array Value} {w : World} {b q r : Nat} {Z : Val} (o : Obj) (V : Val) (hres : fn.results = #[.cell q 26, .tmp r]) (hq : tmps.getD q undef = .pointer (some ⟨b, 0, none⟩))
    (hb : w.heap[b]? = some Z.obj) (hQ : ∀ w', Chg (OneP b) w w' → Q (.returned (.tuple #[V.val, tmps.getD r undef])) w') :
    bodyPost Tryz.prog fn Q Exit.ret ⟨tmps, []⟩ ((((w.setCell ⟨b, 0, none⟩ (.int .i64 V.kind)).setCell ⟨b, 1, none⟩ (.int .i64 V.num)).setCell ⟨b, 2, none⟩ (sv V.str)).alloc o) := by
  have h1 := val_set hb V
  have c1 := chg_set3 (w := w) (b := b) (.int .i64 V.kind) (.int .i64 V.num) (sv V.str)
  generalize World.setCell _ _ (sv V.str) = W at h1 c1 ⊢
  exact bodyPost_ret (v := .tuple #[V.val, tmps.getD r undef]) (results_big2 (P := Tryz.prog) hres tmps _ b V.cells _ hq (range_block ((hal_old (lt_of_heap h1)).trans h1)) Tryz.underlying26 rfl (by kernel_rfl)) rfl (hQ _ (c1.alloc _))
theorem val_ret3Ead {fn : Func} {Q : Ending → World → Prop} {tmps : Array Value} {w : World} {b q r : Nat} {Z : Val} (o : Obj) (V : Val) (hres : fn.results = #[.cell q 26, .tmp r]) (hq : tmps.getD q undef = .pointer (some ⟨b, 0, none⟩))
    (hb : w.heap[b]? = some Z.obj) (hQ : ∀ w', Chg (OneP b) w w' → Q (.returned (.tuple #[V.val, tmps.getD r undef])) w') :
    bodyPost Tryz.prog fn Q Exit.ret ⟨tmps, []⟩ ((((w.setCell ⟨b, 0, none⟩ (.int .i64 V.kind)).setCell ⟨b, 1, none⟩ (.int .i64 V.num)).setCell ⟨b, 2, none⟩ (sv V.str)).alloc o).drew := by
  have h1 := val_set hb V
  have c1 := chg_set3 (w := w) (b := b) (.int .i64 V.kind) (.int .i64 V.num) (sv V.str)
  generalize World.setCell _ _ (sv V.str) = W at h1 c1 ⊢
  exact bodyPost_ret (v := .tuple #[V.val, tmps.getD r undef]) (results_big2 (P := Tryz.prog) hres tmps _ b V.cells _ hq (range_block (show (W.alloc o).heap[b]? = _ from (hal_old (lt_of_heap h1)).trans h1)) Tryz.underlying26 rfl (by kernel_rfl)) rfl (hQ _ (c1.alloc _).drew)
set_option maxRecDepth 100000 in
set_option maxHeartbeats 2000000 in
theorem eval_any (cs : List Bcol) (row : List Val) (hrow : rowOk cs row) (ao : Option Addr) (cap : Nat) (y : Ex) (t : Int) (ht : tyL cs y = some t) (E : ExF) (F Fr : Nat → Prop) (w : World) (hx : ExAt w F y E) (hr : ValsAt w Fr (.slice ao row.length cap) row) :
    Calls Tryz.prog 13 #[E.val, .slice ao row.length cap] w fun e w' => e = .returned (.tuple #[(evalV row y).1.val, .int .i64 (evalV row y).2]) ∧ Chg NoB w w' := by
  have FI := Lib.hid (vfind_any cs row hrow (w.heap.size + 1 + 1) ao cap y t ht)
  obtain ⟨⟨v, e1⟩, hv⟩ : ∃ q, findV row y 0 = q := ⟨_, rfl⟩
  have HE : Hid (evalV row y = if e1 = 0 then (v, 0) else (Val.null, e1)) := Lib.hid (by unfold evalV; rw [hv])
  have HV := Lib.hid hv
  have X0 : Hid (Chg NoB w (((w.alloc E.obj).alloc Val.null.obj).alloc (.cells #[.slice ao row.length cap, .int .i64 0] 88))) := Lib.hid ((((Chg.refl NoB w).alloc _).alloc _).alloc _)
  have Z0 : Hid ((((w.alloc E.obj).alloc Val.null.obj).alloc (.cells #[.slice ao row.length cap, .int .i64 0] 88)).heap[w.heap.size + 1]? = some Val.null.obj) := Lib.hid ((hal_old (by simp)).trans (hal_new' (by simp)))
  have F0 : Hid (FnAt (((w.alloc E.obj).alloc Val.null.obj).alloc (.cells #[.slice ao row.length cap, .int .i64 0] 88)) (w.heap.size + 1 + 1) (.slice ao row.length cap) 0) := Lib.hid (hal_new' (by simp))
  have XE := Lib.hid (ExAt.quiet X0.out (hx.mono (G := NotP (w.heap.size + 1 + 1)) (fun q _ hl => by unfold NotP; omega)))
  have XR := Lib.hid (RowAt.quiet (RowAt.mono hr (G := NotP (w.heap.size + 1 + 1)) (fun q _ hl => by unfold NotP; omega)) X0.out)
  clear hx hr ht hrow hv
  go_enter Tryz.func13, Tryz.ntmps13
  go_wp2_with fail
  refine (FI.out E 0 _ XE.out F0.out XR.out).mono ?_
  rw [HV.out]
  rintro e w1 ⟨rfl, c1, f1⟩
  have X1 : Hid (Chg NoB w w1) := Lib.hid (X0.out.trans c1 (fun k h => .inr (by unfold OneP at h; omega)))
  have Z1 := Lib.hid (c1.heap Z0.out (by unfold OneP; omega))
  have s1 : w.heap.size + 1 < w1.heap.size := lt_of_heap Z1.out
  have s2 : w.heap.size + 1 + 1 < w1.heap.size := lt_of_heap f1
  obtain ⟨z0, z1, z2⟩ := val_cells Z1.out
  have fz : ∀ o, w1.frozen? ⟨w.heap.size + 1, o, none⟩ = false := fun o => frozen_of_row w1 _ o _ _ Z1.out
  have fe : w1.cell? ⟨w.heap.size + 1 + 1, 1, none⟩ = some (.int .i64 e1) := cell_of_row w1 _ 1 _ _ _ f1
  clear c1 f1
  by_cases he : e1 = 0
  · subst he
    go_wp2_with fail
    exact val_ret3Ea _ v rfl rfl Z1.out (fun w' c => ⟨by rw [HE.out]; rfl, X1.out.trans c (fun k h => .inr (by unfold OneP at h; omega))⟩)
  · have b1 : (e1 == 0) = false := by simpa using he
    have b2 : (e1 != 0) = true := by simp [bne, b1]
    have HE2 := Lib.hid he
    clear he
    go_wp2_with fail
    go_region
    go_wp2
    exact val_ret3Ead _ Val.null rfl rfl Z1.out (fun w' c => ⟨by rw [HE.out, if_neg HE2.out]; rfl, X1.out.trans c (fun k h => .inr (by unfold OneP at h; omega))⟩)
set_option maxRecDepth 100000 in
set_option maxHeartbeats 2000000 in
theorem holds_any (cs : List Bcol) (row : List Val) (hrow : rowOk cs row) (ao : Option Addr) (cap : Nat) (y : Ex) (t : Int) (ht : tyL cs y = some t) (ht2 : t = 2 ∨ t = 0) (E : ExF) (F Fr : Nat → Prop) (w : World) (hx : ExAt w F y E) (hr : ValsAt w Fr (.slice ao row.length cap) row) :
    Calls Tryz.prog 15 #[E.val, .slice ao row.length cap] w fun e w' => e = .returned (.tuple #[.bool (holdsV row y).1, .int .i64 (holdsV row y).2]) ∧ Chg NoB w w' := by
  have hfit := fits_find cs row hrow y t 0 ht
  obtain ⟨⟨v, e1⟩, hv⟩ : ∃ q, findV row y 0 = q := ⟨_, rfl⟩
  rw [hv] at hfit
  have hk : v.kind = 0 ∨ v.kind = 2 := by
    have h : v.kind = 0 ∨ v.kind = t := hfit.2
    omega
  have HE : Hid (evalV row y = if e1 = 0 then (v, 0) else (Val.null, e1)) := Lib.hid (by unfold evalV; rw [hv])
  have HH : Hid (holdsV row y = (decide (e1 = 0) && v.kind == 2 && v.num == 1, e1)) := Lib.hid (by unfold holdsV; rw [hv])
  have HC := Lib.hid (eval_any cs row hrow ao cap y t ht E F Fr (w.alloc E.obj) (hx.quiet ((Chg.refl _ _).alloc _)) (RowAt.quiet hr ((Chg.refl _ _).alloc _)))
  rw [HH.out]
  clear hfit hv ht hrow hx hr
  go_enter Tryz.func15, Tryz.ntmps15
  go_wp2_with fail
  refine HC.out.mono ?_
  rw [HE.out]
  rintro e w1 ⟨rfl, c1⟩
  have X1 := Lib.hid (((Chg.refl NoB w).alloc E.obj).trans c1 (fun k h => h.elim))
  have X2 : Hid (∀ o, Chg NoB w (w1.alloc o)) := Lib.hid fun o => X1.out.alloc o
  clear c1
  by_cases he : e1 = 0
  · subst he
    rw [if_pos rfl]
    by_cases h0 : v.kind = 0
    · have b1 : (v.kind != 0) = false := by simp [h0]
      have b2 : (v.kind == 2) = false := by simp [h0]
      clear h0 hk
      go_wp2_with fail
      go_ret2
      exact ⟨by simp, X2.out _⟩
    · have h2 : v.kind = 2 := by omega
      have b1 : (v.kind != 0) = true := by simp [h2]
      have b3 : (v.kind != 2) = false := by simp [h2]
      have b2 : (v.kind == 2) = true := by simp [h2]
      clear h0 hk h2
      go_wp2_with fail
      go_ret2
      exact ⟨by simp, X2.out _⟩
  · have b1 : (e1 == 0) = false := by simpa using he
    have b2 : (e1 != 0) = true := by simp [bne, b1]
    rw [if_neg he]
    have HE2 := Lib.hid he
    clear he hk
    go_wp2_with fail
    go_ret2
    exact ⟨by simp [HE2.out], X2.out _⟩
end Go.Proofs.YtnbckfkdmkbopaaGreatDoor

set_option autoImplicit false
namespace Go.Proofs.YtnbckfkdmkbopaaGreatDoor
open Go

/-- a literal's value -/
def litL : Ex → Option Val
  | .val v => if v.kind ≠ 0 ∧ okV v = true then some v else none
  | .un k (.val v) => if k = 3 ∧ v.kind = 1 ∧ v.num ≠ -9223372036854775808 then some (intV (RowKit.wrap64 (-v.num))) else none
  | _ => none
def turnL (k : Int) : Int := if k = 10 then 10 else if k = 12 then 14 else if k = 13 then 15 else if k = 14 then 12 else if k = 15 then 13 else 0
/-- a slot, a comparison and a value -/
def cmpQ (cs : List Bcol) (k : Int) (a b : Ex) : Option (Nat × Int × Val) :=
  match a with
  | .slot i =>
    match litL b with
    | none => none
    | some v => if 0 ≤ i ∧ (cs[i.toNat]?).map Bcol.ty = some v.kind then some (i.toNat, k, v) else none
  | _ => none
def isSlot : Ex → Bool
  | .slot _ => true
  | _ => false
def questL (cs : List Bcol) : Ex → Option (Nat × Int × Val)
  | .bin k a b =>
    if k = 16 then questL cs a
    else if turnL k = 0 then none
    else if isSlot a then cmpQ cs k a b else cmpQ cs (turnL k) b a
  | _ => none
def greatL (k : Int) : Val := if k = 1 then ⟨k, 9223372036854775807, []⟩ else if k = 2 then ⟨k, 1, []⟩ else ⟨k, 0, List.replicate 64 255⟩
/-- the least and the greatest value that are read -/
def loL (k : Int) (v : Val) : Val := if k = 10 then v else if k = 14 ∨ k = 15 then v else Val.null
def hiL (k : Int) (v : Val) : Val := if k = 10 then v else if k = 14 ∨ k = 15 then greatL v.kind else v
def inL (lo hi v : Val) : Bool := v.kind == 0 || (decide (cmpV lo v ≤ 0) && decide (cmpV v hi ≤ 0))
/-- what a plan has of a row: all, or what is asked -/
def covL (q : Option (Nat × Int × Val)) (row : List Val) : Bool :=
  match q with
  | none => true
  | some (i, k, v) => inL (loL k v) (hiL k v) (row.getD i Val.null)

/-! orders -/
theorem sgnI_swap (a b : Int) : sgnI b a = - sgnI a b := by
  unfold sgnI
  by_cases h1 : a < b
  · have : ¬ b < a := by omega
    simp [h1, this]
  · by_cases h2 : b < a <;> simp [h1, h2]
theorem ltS_asymm : ∀ (a b : Str), ltS a b = true → ltS b a = false
  | _, [], h => by cases ‹Str› <;> simp [ltS] at h
  | [], _ :: _, _ => rfl
  | x :: l, y :: r, h => by
    simp only [ltS] at h ⊢
    by_cases h1 : x < y
    · have h2 : ¬ y < x := fun h => by have := UInt8.lt_asymm h1; exact this h
      simp [h1, h2]
    · by_cases h2 : y < x
      · simp [h1, h2] at h
      · simp [h1, h2] at h ⊢
        exact ltS_asymm l r h
theorem sgnS_swap (a b : Str) : sgnS b a = - sgnS a b := by
  unfold sgnS
  by_cases h1 : ltS a b = true
  · have := ltS_asymm a b h1
    simp [h1, this]
  · by_cases h2 : ltS b a = true <;> simp [h1, h2]
theorem cmpV_swap (a b : Val) : cmpV b a = - cmpV a b := by
  unfold cmpV orI
  rw [sgnI_swap a.kind b.kind, sgnI_swap a.num b.num, sgnS_swap a.str b.str]
  by_cases h1 : sgnI a.kind b.kind = 0
  · by_cases h2 : sgnI a.num b.num = 0
    · simp [h1, h2]
    · have : ¬ - sgnI a.num b.num = 0 := by omega
      simp [h1, h2]
  · have : ¬ - sgnI a.kind b.kind = 0 := by omega
    simp [h1]
theorem sgnI_le {a b : Int} (h : a ≤ b) : sgnI a b ≤ 0 := by
  unfold sgnI
  split
  · decide
  · split
    · omega
    · decide
theorem ltS_max : ∀ (a : Str) (n : Nat), a.length ≤ n → ltS (List.replicate n 255) a = false
  | [], n, _ => by cases n <;> rfl
  | x :: l, 0, h => by simp at h
  | x :: l, n + 1, h => by
    simp only [List.replicate_succ, ltS]
    have h1 : ¬ (255 : UInt8) < x := by
      intro h
      have := UInt8.lt_iff_toNat_lt.1 h
      have h2 := x.toNat_lt
      have h3 : (255 : UInt8).toNat = 255 := rfl
      omega
    simp only [List.length_cons] at h
    rw [if_neg h1]
    split
    · rfl
    · exact ltS_max l n (by omega)
theorem sgnS_max {a : Str} (h : a.length ≤ 64) : sgnS a (List.replicate 64 255) ≤ 0 := by
  unfold sgnS
  rw [ltS_max a 64 h]
  split <;> decide
theorem cmp_great {v : Val} (h : okV v = true) (hk : v.kind ≠ 0) (hn : v.num ≤ 9223372036854775807) : cmpV v (greatL v.kind) ≤ 0 := by
  obtain ⟨k, n, s⟩ := v
  simp only at hk hn
  unfold greatL cmpV orI
  have h0 : sgnI k k = 0 := by simp [sgnI]
  by_cases h1 : k = 1
  · subst h1
    have hs : s = [] := by simpa [okV] using h
    subst hs
    simp [sgnI, sgnS, ltS]
    split
    · split <;> omega
    · split <;> omega
  · by_cases h2 : k = 2
    · subst h2
      have hs : (n = 0 ∨ n = 1) ∧ s = [] := by simpa [okV] using h
      obtain ⟨hn', rfl⟩ := hs
      rcases hn' with rfl | rfl <;> decide
    · have hs : (k = 3 ∧ n = 0) ∧ s.length ≤ 64 := by simpa [okV, hk, h1, h2] using h
      obtain ⟨⟨rfl, rfl⟩, hl⟩ := hs
      simp
      rw [show sgnI 3 3 = 0 by decide, show sgnI 0 0 = 0 by decide]
      simp
      exact sgnS_max hl
theorem cmp_null {v : Val} (h : okV v = true) (hk : v.kind ≠ 0) : cmpV Val.null v ≤ 0 := by
  obtain ⟨k, n, s⟩ := v
  simp only at hk
  have hk' : k = 1 ∨ k = 2 ∨ k = 3 := by
    simp [okV, hk] at h
    by_cases h1 : k = 1
    · exact .inl h1
    · by_cases h2 : k = 2
      · exact .inr (.inl h2)
      · simp [h1, h2] at h; exact .inr (.inr h.1.1)
  rcases hk' with rfl | rfl | rfl <;> simp [cmpV, orI, sgnI, Val.null]
/-- a comparison that is asked: of a value that is not read it is false -/
theorem not_in {k : Int} {c v : Val} (hk : turnL k ≠ 0) (hv : okV v = true) (hn : v.num ≤ 9223372036854775807) (hvc : v.kind = c.kind) (h : inL (loL k c) (hiL k c) v = false) : v.kind ≠ 0 ∧ cmpB k (cmpV v c) = false := by
  have h0 : v.kind ≠ 0 := by
    intro h0; simp [inL, h0] at h
  refine ⟨h0, ?_⟩
  have hc : ¬ (cmpV (loL k c) v ≤ 0 ∧ cmpV v (hiL k c) ≤ 0) := by
    intro hc; simp [inL, hc.1, hc.2] at h
  have hs := cmpV_swap v c
  have hk' : k = 10 ∨ k = 12 ∨ k = 13 ∨ k = 14 ∨ k = 15 := by
    unfold turnL at hk; omega
  have hnl := cmp_null hv h0
  have hgr := cmp_great hv h0 hn
  rw [hvc] at hgr
  rcases hk' with rfl | rfl | rfl | rfl | rfl
  · simp [loL, hiL] at hc
    have : ¬ cmpV v c = 0 := by omega
    simp [cmpB, this]
  · simp [loL, hiL] at hc
    have := hc hnl
    simp [cmpB]; omega
  · simp [loL, hiL] at hc
    have := hc hnl
    simp [cmpB]; omega
  · simp [loL, hiL] at hc
    have : 0 < cmpV c v := by omega
    simp [cmpB]; omega
  · simp [loL, hiL] at hc
    have : 0 < cmpV c v := by omega
    simp [cmpB]; omega
theorem turn_cmp {k c : Int} (hk : turnL k ≠ 0) : cmpB (turnL k) (-c) = cmpB k c := by
  have hk' : k = 10 ∨ k = 12 ∨ k = 13 ∨ k = 14 ∨ k = 15 := by
    unfold turnL at hk; omega
  rcases hk' with rfl | rfl | rfl | rfl | rfl <;> simp [turnL, cmpB] <;> (rw [Bool.eq_iff_iff]; simp; try omega)
theorem turn_ne {k : Int} (hk : turnL k ≠ 0) : turnL (turnL k) ≠ 0 := by
  have hk' : k = 10 ∨ k = 12 ∨ k = 13 ∨ k = 14 ∨ k = 15 := by
    unfold turnL at hk; omega
  rcases hk' with rfl | rfl | rfl | rfl | rfl <;> decide
theorem turn_two {k : Int} (hk : turnL k ≠ 0) : turnL (turnL k) = k := by
  have hk' : k = 10 ∨ k = 12 ∨ k = 13 ∨ k = 14 ∨ k = 15 := by
    unfold turnL at hk; omega
  rcases hk' with rfl | rfl | rfl | rfl | rfl <;> decide
theorem turn_lo {k : Int} (hk : turnL k ≠ 0) : ¬ 16 ≤ k ∧ ¬ k ≤ 9 := by
  unfold turnL at hk; omega
theorem lit_find {b : Ex} {c : Val} (h : litL b = some c) (row : List Val) : findV row b 0 = (c, 0) ∧ c.kind ≠ 0 := by
  match b, h with
  | .val v, h =>
    simp only [litL] at h
    split at h
    · rename_i h1; cases h; exact ⟨rfl, h1.1⟩
    · cases h
  | .un k (.val v), h =>
    simp only [litL] at h
    split at h
    · rename_i h1
      cases h
      obtain ⟨rfl, hk, hn⟩ := h1
      refine ⟨?_, by simp [intV]⟩
      simp [findV, hk, hn]
    · cases h
theorem cmpQ_some {cs : List Bcol} {k : Int} {a b : Ex} {q : Nat × Int × Val} (h : cmpQ cs k a b = some q) : ∃ (i : Int) (c : Val), a = .slot i ∧ litL b = some c ∧ 0 ≤ i ∧ (cs[i.toNat]?).map Bcol.ty = some c.kind ∧ q = (i.toNat, k, c) := by
  unfold cmpQ at h
  split at h
  · rename_i i
    split at h
    · cases h
    · rename_i c hc
      split at h
      · rename_i h1; cases h; exact ⟨i, c, rfl, hc, h1.1, h1.2, rfl⟩
      · cases h
  · cases h
/-- a row that is not read: the condition is FALSE there, without an error -/
theorem quest_false (cs : List Bcol) (row : List Val) (hr : rowOk cs row) (hn : ∀ v ∈ row, v.num ≤ 9223372036854775807) : ∀ (y : Ex), covL (questL cs y) row = false → findV row y 0 = (truthV false, 0)
  | .val _, h => by simp [questL, covL] at h
  | .slot _, h => by simp [questL, covL] at h
  | .col _ _, h => by simp [questL, covL] at h
  | .cnt, h => by simp [questL, covL] at h
  | .un _ _, h => by simp [questL, covL] at h
  | .bin k a b, h => by
    simp only [questL] at h
    by_cases h16 : k = 16
    · subst h16
      rw [if_pos rfl] at h
      have := quest_false cs row hr hn a h
      simp [findV, this, truthV, Val.isV]
    · rw [if_neg h16] at h
      by_cases ht : turnL k = 0
      · rw [if_pos ht] at h; simp [covL] at h
      · rw [if_neg ht] at h
        obtain ⟨hk16, hk9⟩ := turn_lo ht
        have get : ∀ {i : Int} {c : Val}, (cs[i.toNat]?).map Bcol.ty = some c.kind → ∃ v, row.getD i.toNat Val.null = v ∧ okV v = true ∧ (v.kind = 0 ∨ v.kind = c.kind) ∧ v.num ≤ 9223372036854775807 := by
          intro i c hc
          obtain ⟨d, hd, he⟩ := Option.map_eq_some_iff.1 hc
          have hl := (List.getElem?_eq_some_iff.1 hd).1
          have hv : row[i.toNat]? = some (row[i.toNat]'(by have := hr.1; omega)) := List.getElem?_eq_getElem _
          refine ⟨_, by simp only [List.getD, hv, Option.getD_some], (hr.2 _ _ _ hv hd).1, ?_, hn _ (List.mem_of_getElem? hv)⟩
          rw [← he]; exact (hr.2 _ _ _ hv hd).2
        split at h
        · cases hq : cmpQ cs k a b with
          | none => rw [hq] at h; simp [covL] at h
          | some q =>
            rw [hq] at h
            obtain ⟨i, c, rfl, hlit, hi, hcs, rfl⟩ := cmpQ_some hq
            obtain ⟨v, hv, hok, hkk, hnn⟩ := get hcs
            obtain ⟨hf, hc0⟩ := lit_find hlit row
            simp only [covL, hv] at h
            have h0 : v.kind ≠ 0 := by intro h0; simp [inL, h0] at h
            have hvk : v.kind = c.kind := hkk.resolve_left h0
            obtain ⟨_, hcf⟩ := not_in ht hok hnn hvk h
            simp only [findV, hv, hf]
            simp [hk16, hk9, h0, hc0, hcf]
        · cases hq : cmpQ cs (turnL k) b a with
          | none => rw [hq] at h; simp [covL] at h
          | some q =>
            rw [hq] at h
            obtain ⟨i, c, rfl, hlit, hi, hcs, rfl⟩ := cmpQ_some hq
            obtain ⟨v, hv, hok, hkk, hnn⟩ := get hcs
            obtain ⟨hf, hc0⟩ := lit_find hlit row
            simp only [covL, hv] at h
            have h0 : v.kind ≠ 0 := by intro h0; simp [inL, h0] at h
            have hvk : v.kind = c.kind := hkk.resolve_left h0
            obtain ⟨_, hcf⟩ := not_in (turn_ne ht) hok hnn hvk h
            have hcf2 : cmpB k (cmpV c v) = false := by
              have := turn_cmp (k := k) (c := cmpV c v) ht
              rw [← cmpV_swap c v, hcf] at this
              exact this.symm
            simp only [findV, hv, hf]
            simp [hk16, hk9, h0, hc0, hcf2]
end Go.Proofs.YtnbckfkdmkbopaaGreatDoor
