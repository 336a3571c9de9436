/-
  The height of a tree. No condition beyond each lemma's own.
  Binding: which kinds there are, how many kids each has. No condition beyond each lemma's own.
  Binding: is a value one? No condition beyond each lemma's own.
  Binding: the place of a column. No condition beyond each lemma's own.
  Binding: are all types one, or NULL? No condition beyond each lemma's own.
  Binding: only. No condition beyond each lemma's own.
-/
import Derived.Test.YtnbckfkdmkbopaaGreatDoorTH17
set_option autoImplicit false
namespace Go.Proofs.YtnbckfkdmkbopaaGreatDoor
open Go Go.RowKit

def Ex.kids : Ex → List Ex
  | .un _ a => [a]
  | .bin _ a b => [a, b]
  | _ => []
/-- the greatest height in a list -/
def hmax (l : List Ex) : Nat := l.foldl (fun h y => max h y.hgt) 0
theorem hmax_snoc (l : List Ex) (y : Ex) : hmax (l ++ [y]) = max (hmax l) y.hgt := by simp [hmax]
theorem hmax_kids (x : Ex) : x.hgt = hmax x.kids + 1 := by
  cases x <;> simp [Ex.kids, hmax, Ex.hgt]
theorem hmax_le {l : List Ex} {n : Nat} (h : ∀ y ∈ l, y.hgt ≤ n) : hmax l ≤ n := by
  unfold hmax
  suffices ∀ a, a ≤ n → l.foldl (fun h y => max h y.hgt) a ≤ n from this 0 (Nat.zero_le _)
  induction l with
  | nil => intro a ha; exact ha
  | cons y l ih =>
    intro a ha
    simp only [List.foldl_cons]
    exact ih (fun z hz => h z (by simp [hz])) _ (by have := h y (by simp); omega)
theorem Ex.kid_lt {x y : Ex} {j : Nat} (h : x.kids[j]? = some y) : y.hgt < x.hgt := by
  have hm := List.mem_of_getElem? h
  cases x <;> simp [Ex.kids] at hm
  · subst hm; simp [Ex.hgt]
  · rcases hm with rfl | rfl <;> simp only [Ex.hgt] <;> omega
/-- where the kids of a tree lie -/
theorem ExAt.kid {w : World} {F : Nat → Prop} {x : Ex} {E : ExF} (h : ExAt w F x E) : E.m = x.kids.length ∧ ∀ j y, x.kids[j]? = some y → ∃ b A, E.ao = some ⟨b, 0, none⟩ ∧ b < w.heap.size ∧ F b ∧ w.rangeAt b (j * 8) (ExF.cells A) ∧ ExAt w F y A := by
  cases x with
  | val v => subst h; exact ⟨rfl, fun j y e => by simp [Ex.kids] at e⟩
  | col t n => subst h; exact ⟨rfl, fun j y e => by simp [Ex.kids] at e⟩
  | slot n => subst h; exact ⟨rfl, fun j y e => by simp [Ex.kids] at e⟩
  | cnt => subst h; exact ⟨rfl, fun j y e => by simp [Ex.kids] at e⟩
  | un k a =>
    obtain ⟨b, q, A, rfl, hb, hF, hr, hx⟩ := h
    refine ⟨rfl, fun j y e => ?_⟩
    match j with
    | 0 => simp [Ex.kids] at e; subst e; exact ⟨b, A, rfl, hb, hF, hr, hx⟩
    | j + 1 => simp [Ex.kids] at e
  | bin k a a2 =>
    obtain ⟨b, q, A, B, rfl, hb, hF, hr, hx, hx2⟩ := h
    refine ⟨rfl, fun j y e => ?_⟩
    match j with
    | 0 => simp [Ex.kids] at e; subst e; exact ⟨b, A, rfl, hb, hF, fun i v hi => hr i v (by rw [List.getElem?_append_left (by have := (List.getElem?_eq_some_iff.1 hi).1; simpa using this)]; exact hi), hx⟩
    | 1 =>
      simp [Ex.kids] at e; subst e
      refine ⟨b, B, rfl, hb, hF, fun i v hi => ?_, hx2⟩
      have := hr (8 + i) v (by rw [List.getElem?_append_right (by simp)]; simpa using hi)
      simpa [Nat.add_comm] using this
    | j + 2 => simp [Ex.kids] at e
theorem ex_range {w : World} {b o : Nat} {E : ExF} (h : w.rangeAt b o (ExF.cells E)) : w.cell? ⟨b, o, none⟩ = some (.int .i64 E.k) ∧ w.cell? ⟨b, o + 1, none⟩ = some (.int .i64 E.vk) ∧ w.cell? ⟨b, o + 2, none⟩ = some (.int .i64 E.vn) ∧ w.cell? ⟨b, o + 3, none⟩ = some (sv E.vs) ∧
    w.cell? ⟨b, o + 4, none⟩ = some (sv E.t) ∧ w.cell? ⟨b, o + 5, none⟩ = some (sv E.n) ∧ w.cell? ⟨b, o + 6, none⟩ = some (.int .i64 E.s) ∧ w.cell? ⟨b, o + 7, none⟩ = some (.slice E.ao E.m E.c) :=
  ⟨h 0 _ rfl, h 1 _ rfl, h 2 _ rfl, h 3 _ rfl, h 4 _ rfl, h 5 _ rfl, h 6 _ rfl, h 7 _ rfl⟩
set_option maxRecDepth 100000 in
set_option maxHeartbeats 1000000 in
theorem height_any : ∀ (n : Nat) (x : Ex) (E : ExF) (F : Nat → Prop) (w : World), x.hgt ≤ n → n ≤ 100000 → ExAt w F x E → Calls Tryz.prog 73 #[E.val] w fun e w' => e = .returned (.int .i64 x.hgt) ∧ Chg NoB w w' := by
  intro n
  induction n with
  | zero => intro x E F w h; cases x <;> simp [Ex.hgt] at h
  | succ n ih =>
    intro x E F w hn hN hx
    obtain ⟨hm, hk⟩ := hx.kid
    obtain ⟨ek, evk, evn, evs, et, en, es, ao, m, c⟩ := E
    simp only at hm hk
    subst hm
    have HK := Lib.hid hk
    have HI := Lib.hid ih
    have hl : x.kids.length ≤ 2 := by cases x <;> simp [Ex.kids]
    clear hx hk ih
    go_enter Tryz.func73, Tryz.ntmps73
    go_wp2
    go_loopw [3, 9] (fun h i wr => ∃ j : Nat, i = .int .i64 j ∧ j ≤ x.kids.length ∧ h = .int .i64 (hmax (x.kids.take j)) ∧ Hid (Chg NoB w wr)) (fun _ i _ => (x.kids.length - intOf i).toNat)
    case atStart => exact ⟨0, rfl, Nat.zero_le _, rfl, Lib.hid ((Chg.refl _ _).alloc _)⟩
    case round =>
      obtain ⟨j, rfl, hj, rfl, HC⟩ := hrel
      by_cases hlt : j < x.kids.length
      · obtain ⟨y, hy⟩ : ∃ y, x.kids[j]? = some y := ⟨_, List.getElem?_eq_getElem (by omega)⟩
        obtain ⟨b, A, rfl, hb, hF, hr, hxa⟩ := HK.out j y hy
        have hr' := range_of_heap (HC.out.keep b hb (fun h => h)) hr
        obtain ⟨a0, a1, a2, a3, a4, a5, a6, a7⟩ := ex_range hr'
        have HXA := Lib.hid (hxa.quiet HC.out)
        have hyl := Ex.kid_lt hy
        have HY := Lib.hid hy
        clear hy hr hr' hxa
        have XA : Chg NoB wr (wr.alloc A.obj) := (Chg.refl _ _).alloc _
        have XW : Hid (Chg NoB w (wr.alloc A.obj)) := Lib.hid (HC.out.trans XA (fun _ h => .inl h))
        have HX2 := Lib.hid (HXA.out.quiet XA)
        clear XA
        go_wp2_with fail
        refine (HI.out y A F _ (by omega) (by omega) HX2.out).mono ?_
        rintro e w2 ⟨rfl, hc2⟩
        have XW2 : Hid (Chg NoB w w2) := Lib.hid (XW.out.trans hc2 (fun _ h => .inl h))
        clear hc2
        have htk : x.kids.take (j + 1) = x.kids.take j ++ [y] := by rw [List.take_add_one, HY.out]; rfl
        go_wp2
        go_round
        case rel => exact ⟨j + 1, by go_num, by omega, by rw [htk, hmax_snoc]; go_num, XW2⟩
        case measure => simp [intOf]; omega
      · obtain rfl : j = x.kids.length := by omega
        rw [List.take_length]
        have hh := Lib.hid (hmax_kids x)
        have hb : (hmax x.kids : Int) ≤ 99999 := by have := hh.out; omega
        go_wp2
        go_ret
        refine ⟨?_, HC.out⟩
        show Ending.returned (.int .i64 _) = _
        rw [hh.out]
        go_num
end Go.Proofs.YtnbckfkdmkbopaaGreatDoor

set_option autoImplicit false
namespace Go.Proofs.YtnbckfkdmkbopaaGreatDoor
open Go Go.RowKit

def aggB (k : Int) : Bool := decide (20 ≤ k) && decide (k ≤ 23)
theorem aggregate_any (k : Int) (w : World) : Calls Tryz.prog 42 #[.int .i64 k] w fun e w' => e = .returned (.bool (aggB k)) ∧ w = w' := by
  by_cases h1 : 20 ≤ k
  · by_cases h2 : k ≤ 23
    · go_enter Tryz.func42, Tryz.ntmps42
      go_wp2
      go_ret
      exact ⟨by simp [aggB]; omega, rfl⟩
    · go_enter Tryz.func42, Tryz.ntmps42
      go_wp2
      go_ret
      exact ⟨by simp [aggB]; omega, rfl⟩
  · go_enter Tryz.func42, Tryz.ntmps42
    go_wp2
    go_ret
    exact ⟨by have : ¬ 20 ≤ k := (by omega); simp [aggB, this], rfl⟩
def kidsN (k : Int) : Int := if k = 1 ∨ k = 2 then 0 else if unK k then 1 else if binK k then 2 else -1
theorem kidsN_other {k : Int} (h1 : ¬ k = 1) (h2 : ¬ k = 2) (h3 : ¬ k = 3) (h4 : ¬ k = 4) (h5 : ¬ k = 18) (h6 : ¬ k = 19) : kidsN k = if 5 ≤ k ∧ k ≤ 17 then 2 else -1 := by
  simp [kidsN, unK, binK, h1, h2, h3, h4, h5, h6]
theorem bkids_any (k : Int) (w : World) : Calls Tryz.prog 43 #[.int .i64 k] w fun e w' => e = .returned (.int .i64 (kidsN k)) ∧ w = w' := by
  by_cases h1 : k = 1
  · subst h1
    go_enter Tryz.func43, Tryz.ntmps43
    go_wp2
    go_ret
    exact ⟨rfl, rfl⟩
  by_cases h2 : k = 2
  · subst h2
    go_enter Tryz.func43, Tryz.ntmps43
    go_wp2
    go_ret
    exact ⟨rfl, rfl⟩
  by_cases h3 : k = 3
  · subst h3
    go_enter Tryz.func43, Tryz.ntmps43
    go_wp2
    go_ret
    exact ⟨rfl, rfl⟩
  by_cases h4 : k = 4
  · subst h4
    go_enter Tryz.func43, Tryz.ntmps43
    go_wp2
    go_ret
    exact ⟨rfl, rfl⟩
  by_cases h5 : k = 18
  · subst h5
    go_enter Tryz.func43, Tryz.ntmps43
    go_wp2
    go_ret
    exact ⟨rfl, rfl⟩
  by_cases h6 : k = 19
  · subst h6
    go_enter Tryz.func43, Tryz.ntmps43
    go_wp2
    go_ret
    exact ⟨rfl, rfl⟩
  have hK := Lib.hid (kidsN_other h1 h2 h3 h4 h5 h6)
  by_cases h7 : 5 ≤ k
  · by_cases h8 : k ≤ 17
    · go_enter Tryz.func43, Tryz.ntmps43
      go_wp2
      go_ret
      exact ⟨by rw [hK.out, if_pos ⟨h7, h8⟩]; rfl, rfl⟩
    · go_enter Tryz.func43, Tryz.ntmps43
      go_wp2
      go_ret
      exact ⟨by rw [hK.out, if_neg (by omega)]; rfl, rfl⟩
  · go_enter Tryz.func43, Tryz.ntmps43
    go_wp2
    go_ret
    exact ⟨by rw [hK.out, if_neg (by omega)]; rfl, rfl⟩
end Go.Proofs.YtnbckfkdmkbopaaGreatDoor

set_option autoImplicit false
namespace Go.Proofs.YtnbckfkdmkbopaaGreatDoor
open Go Go.RowKit

set_option maxHeartbeats 1000000 in
theorem ok_any (v : Val) (w : World) : Calls Tryz.prog 44 #[v.val] w fun e w' => e = .returned (.bool (okV v)) ∧ Chg NoB w w' := by
  obtain ⟨k, n, s⟩ := v
  have X : Hid (∀ v2, Chg NoB w (w.alloc (.cells #[.int .i64 k, .int .i64 n, v2] 26))) := Lib.hid (fun v2 => (Chg.refl NoB w).alloc _)
  by_cases h0 : k = 0
  · subst h0
    by_cases hn : n = 0
    · subst hn
      go_enter Tryz.func44, Tryz.ntmps44
      go_wp2
      go_ret
      refine ⟨?_, X.out _⟩
      show Ending.returned (.bool s.isEmpty) = _
      simp [okV]
    · have hk : okV ⟨0, n, s⟩ = false := by simp [okV, hn]
      rw [hk]
      have hb : (n == 0) = false := by simpa using hn
      go_enter Tryz.func44, Tryz.ntmps44
      go_wp2
      go_ret
      exact ⟨rfl, X.out _⟩
  by_cases h1 : k = 1
  · subst h1
    have hk : okV ⟨1, n, s⟩ = s.isEmpty := by simp [okV]
    rw [hk]
    go_enter Tryz.func44, Tryz.ntmps44
    go_wp2
    go_ret
    exact ⟨rfl, X.out _⟩
  by_cases h2 : k = 2
  · subst h2
    by_cases hn : n / 2 = 0
    · have hk : okV ⟨2, n, s⟩ = s.isEmpty := by
        have : n = 0 ∨ n = 1 := by omega
        rcases this with rfl | rfl <;> simp [okV]
      rw [hk]
      go_enter Tryz.func44, Tryz.ntmps44
      go_wp2
      go_ret
      exact ⟨rfl, X.out _⟩
    · have hk : okV ⟨2, n, s⟩ = false := by
        have h1 : ¬ n = 0 := by omega
        have h2 : ¬ n = 1 := by omega
        simp [okV, h1, h2]
      rw [hk]
      have hb : (n / 2 == 0) = false := by simpa using hn
      go_enter Tryz.func44, Tryz.ntmps44
      go_wp2
      go_ret
      exact ⟨rfl, X.out _⟩
  have b0 : (k == 0) = false := by simpa using h0
  have b1 : (k == 1) = false := by simpa using h1
  have b2 : (k == 2) = false := by simpa using h2
  have hok : okV ⟨k, n, s⟩ = (k == 3 && n == 0 && decide (s.length ≤ 64)) := by simp only [okV, b0, b1, b2]; rfl
  rw [hok]
  clear hok
  by_cases h3 : k = 3
  · subst h3
    by_cases hn : n = 0
    · subst hn
      by_cases hl : s.length ≤ 64
      · have hi : (s.length : Int) ≤ 64 := by omega
        go_enter Tryz.func44, Tryz.ntmps44
        go_wp2
        go_ret
        exact ⟨by simp [hl], X.out _⟩
      · have hi : ¬ (s.length : Int) ≤ 64 := by omega
        go_enter Tryz.func44, Tryz.ntmps44
        go_wp2
        go_ret
        exact ⟨by simp, X.out _⟩
    · have hb : (n == 0) = false := by simpa using hn
      go_enter Tryz.func44, Tryz.ntmps44
      go_wp2
      go_ret
      exact ⟨by simp [hb], X.out _⟩
  · have b3 : (k == 3) = false := by simpa using h3
    go_enter Tryz.func44, Tryz.ntmps44
    go_wp2
    go_ret
    exact ⟨by simp [b3], X.out _⟩
end Go.Proofs.YtnbckfkdmkbopaaGreatDoor

set_option autoImplicit false
namespace Go.Proofs.YtnbckfkdmkbopaaGreatDoor
open Go Go.RowKit

def Bcol.cells (c : Bcol) : List Value := [sv c.tab, sv c.name, .int .i64 c.ty]
def bcolCells (cs : List Bcol) : List Value := cs.flatMap Bcol.cells
abbrev BcolsAt (w : World) (F : Nat → Prop) (v : Value) (cs : List Bcol) : Prop := RowAt w F v cs.length (bcolCells cs)
theorem places_snoc (t n : Str) (c : Bcol) : ∀ (l : List Bcol) (k : Nat), places t n (l ++ [c]) k = places t n l k ++ (if c.fits t n then [(k + l.length, c.ty)] else [])
  | [], k => by simp only [List.nil_append, places, List.length_nil, Nat.add_zero]
  | d :: l, k => by
    simp only [List.cons_append, places, places_snoc t n c l (k + 1), List.length_cons]
    rw [show k + 1 + l.length = k + (l.length + 1) by omega]
    split <;> simp
theorem places_take {t n : Str} {cs : List Bcol} {j : Nat} {c : Bcol} (h : cs[j]? = some c) : places t n (cs.take (j + 1)) 0 = places t n (cs.take j) 0 ++ (if c.fits t n then [(j, c.ty)] else []) := by
  obtain ⟨hj, _⟩ := List.getElem?_eq_some_iff.1 h
  rw [List.take_add_one, h, Option.toList_some, places_snoc, List.length_take, Nat.zero_add, Nat.min_eq_left (by omega)]
theorem places_more {t n : Str} {cs : List Bcol} {j : Nat} : ∃ l, places t n cs 0 = places t n (cs.take j) 0 ++ l := by
  suffices ∀ (a b : List Bcol) (k : Nat), ∃ l, places t n (a ++ b) k = places t n a k ++ l by
    have := this (cs.take j) (cs.drop j) 0
    rwa [List.take_append_drop] at this
  intro a b
  induction a with
  | nil => intro k; exact ⟨_, rfl⟩
  | cons c a ih =>
    intro k
    obtain ⟨l, hl⟩ := ih (k + 1)
    simp only [List.cons_append, places, hl]
    exact ⟨l, by split <;> rfl⟩
def atL : List (Nat × Int) → Int
  | [] => -1
  | x :: _ => x.1
theorem bcol_at {w : World} {F : Nat → Prop} {ao : Option Addr} {m cap j : Nat} {cs : List Bcol} {c : Bcol} (h : BcolsAt w F (.slice ao m cap) cs) (hj : cs[j]? = some c) : ∃ b o, ao = some ⟨b, o, none⟩ ∧ b < w.heap.size ∧ F b ∧ w.rangeAt b (o + j * 3) c.cells := by
  obtain ⟨ao', cap', e, hh⟩ := h
  obtain ⟨hlt, _⟩ := List.getElem?_eq_some_iff.1 hj
  obtain ⟨b, o, rfl, hb, hF, hr⟩ := hh (by omega)
  cases e
  exact ⟨b, o, rfl, hb, hF, range_elem hr (fun _ => rfl) hj⟩
def FOut (r : Option (Nat × Int)) (w : World) (e : Ending) (w' : World) : Prop :=
  Chg NoB w w' ∧ match r with
  | none => ∃ q : Int, q ≠ 0 ∧ e = .returned (.tuple #[.int .i64 0, .int .i64 q])
  | some (i, _) => e = .returned (.tuple #[.int .i64 i, .int .i64 0])
theorem FOut.no {r : Option (Nat × Int)} {w w' : World} (hr : r = none) (h : Chg NoB w w') : FOut r w (.returned (.tuple #[.int .i64 0, .int .i64 32])) w' := by
  subst hr; exact ⟨h, 32, by decide, rfl⟩
theorem FOut.yes {r : Option (Nat × Int)} {w w' : World} {i : Nat} {ty : Int} (hr : r = some (i, ty)) (h : Chg NoB w w') : FOut r w (.returned (.tuple #[.int .i64 i, .int .i64 0])) w' := by
  subst hr; exact ⟨h, rfl⟩
def oneOf : List (Nat × Int) → Option (Nat × Int)
  | [x] => some x
  | _ => none
theorem find_two {t n : Str} {cs : List Bcol} {j : Nat} (h : 2 ≤ (places t n (cs.take j) 0).length) : findL t n cs = none := by
  obtain ⟨l, hl⟩ := places_more (t := t) (n := n) (cs := cs) (j := j)
  unfold findL
  rw [hl]
  match hq : places t n (cs.take j) 0, h with
  | a :: b :: r, _ => rfl
set_option maxHeartbeats 2000000 in
theorem find_any (t n : Str) (cs : List Bcol) (F : Nat → Prop) (ao : Option Addr) (cap : Nat) (w : World) (hm : cs.length ≤ 100000) (h : BcolsAt w F (.slice ao cs.length cap) cs) : Calls Tryz.prog 45 #[sv t, sv n, .slice ao cs.length cap] w (FOut (findL t n cs) w) := by
  have H := Lib.hid h
  clear h
  go_enter Tryz.func45, Tryz.ntmps45
  go_wp2
  go_loopw [8, 13] (fun a i wr => ∃ j : Nat, i = .int .i64 j ∧ j ≤ cs.length ∧ a = .int .i64 (atL (places t n (cs.take j) 0)) ∧ Hid ((places t n (cs.take j) 0).length ≤ 1 ∧ Chg NoB w wr)) (fun _ i _ => (cs.length - intOf i).toNat)
  case atStart => exact ⟨0, rfl, Nat.zero_le _, rfl, Lib.hid ⟨Nat.zero_le _, Chg.refl _ _⟩⟩
  case round =>
    obtain ⟨j, rfl, hj, rfl, HC⟩ := hrel
    by_cases hlt : j < cs.length
    · obtain ⟨c, hc⟩ : ∃ c, cs[j]? = some c := ⟨_, List.getElem?_eq_getElem hlt⟩
      obtain ⟨b, o, rfl, hb, hF, hr⟩ := bcol_at H.out hc
      have hr' := range_of_heap (HC.out.2.keep b hb (fun h => h)) hr
      have a0 : wr.cell? ⟨b, o + j * 3, none⟩ = some (sv c.tab) := hr' 0 _ rfl
      have a1 : wr.cell? ⟨b, o + j * 3 + 1, none⟩ = some (sv c.name) := hr' 1 _ rfl
      have a2 : wr.cell? ⟨b, o + j * 3 + 2, none⟩ = some (.int .i64 c.ty) := hr' 2 _ rfl
      have HT := Lib.hid (places_take (t := t) (n := n) hc)
      clear hr hr' hc
      have XA : Hid (∀ v0 v1, Chg NoB w (wr.alloc (.cells #[v0, v1, .int .i64 c.ty] 112))) := Lib.hid (fun v0 v1 => HC.out.2.alloc _)
      by_cases hn : c.name = n
      · have b1 : (c.name == n) = true := by simpa using hn
        by_cases ht : t = []
        · have b2 : t.isEmpty = true := by simpa using ht
          have hft : c.fits t n = true := by simp [Bcol.fits, hn, ht]
          obtain ⟨ps, hps⟩ : ∃ ps, places t n (cs.take j) 0 = ps := ⟨_, rfl⟩
          rw [hps] at HC HT ⊢
          rcases ps with _ | ⟨x, ps⟩
          · simp only [atL]
            go_wp2
            go_round
            case rel => exact ⟨j + 1, by go_num, by omega, by rw [HT.out, hft]; rfl, Lib.hid ⟨by rw [HT.out, hft]; simp, XA.out _ _⟩⟩
            case measure => simp [intOf]; omega
          · simp only [atL]
            have hx0 : (0 : Int) ≤ (x.1 : Int) := by omega
            go_wp2
            refine bodyPost_ret (results_tmp2 rfl _ _ _) rfl ?_
            exact FOut.no (find_two (j := j + 1) (by rw [HT.out, hft]; simp)) (XA.out _ _)
        · have b2 : t.isEmpty = false := by simpa using ht
          by_cases htb : c.tab = t
          · have b3 : (c.tab == t) = true := by simpa using htb
            have hft : c.fits t n = true := by simp [Bcol.fits, hn, htb]
            obtain ⟨ps, hps⟩ : ∃ ps, places t n (cs.take j) 0 = ps := ⟨_, rfl⟩
            rw [hps] at HC HT ⊢
            rcases ps with _ | ⟨x, ps⟩
            · simp only [atL]
              go_wp2
              go_round
              case rel => exact ⟨j + 1, by go_num, by omega, by rw [HT.out, hft]; rfl, Lib.hid ⟨by rw [HT.out, hft]; simp, XA.out _ _⟩⟩
              case measure => simp [intOf]; omega
            · simp only [atL]
              have hx0 : (0 : Int) ≤ (x.1 : Int) := by omega
              go_wp2
              refine bodyPost_ret (results_tmp2 rfl _ _ _) rfl ?_
              exact FOut.no (find_two (j := j + 1) (by rw [HT.out, hft]; simp)) (XA.out _ _)
          · have b3 : (c.tab == t) = false := by simpa using htb
            have hft : c.fits t n = false := by simp [Bcol.fits, hn, ht, htb]
            go_wp2
            go_round
            case rel => exact ⟨j + 1, by go_num, by omega, by rw [HT.out, hft]; simp, Lib.hid ⟨by rw [HT.out, hft]; simpa using HC.out.1, XA.out _ _⟩⟩
            case measure => simp [intOf]; omega
      · have b1 : (c.name == n) = false := by simpa using hn
        have hft : c.fits t n = false := by simp [Bcol.fits, hn]
        go_wp2
        go_round
        case rel => exact ⟨j + 1, by go_num, by omega, by rw [HT.out, hft]; simp, Lib.hid ⟨by rw [HT.out, hft]; simpa using HC.out.1, XA.out _ _⟩⟩
        case measure => simp [intOf]; omega
    · obtain rfl : j = cs.length := by omega
      rw [List.take_length] at HC ⊢
      obtain ⟨ps, hps⟩ : ∃ ps, places t n cs 0 = ps := ⟨_, rfl⟩
      have HF : Hid (findL t n cs = oneOf ps) := Lib.hid (by rw [← hps]; rfl)
      rw [hps] at HC ⊢
      clear hps
      rcases ps with _ | ⟨⟨x, ty⟩, ps⟩
      · simp only [atL]
        go_wp2
        refine bodyPost_ret (results_tmp2 rfl _ _ _) rfl ?_
        exact FOut.no HF.out HC.out.2
      · obtain rfl : ps = [] := by
          have := HC.out.1
          simp only [List.length_cons] at this
          exact List.eq_nil_of_length_eq_zero (by omega)
        simp only [atL]
        have hx0 : ¬ (x : Int) < 0 := by omega
        go_wp2
        refine bodyPost_ret (results_tmp2 rfl _ _ _) rfl ?_
        exact FOut.yes HF.out HC.out.2
end Go.Proofs.YtnbckfkdmkbopaaGreatDoor

set_option autoImplicit false
namespace Go.Proofs.YtnbckfkdmkbopaaGreatDoor
open Go Go.RowKit

/-- a kind that is neither t nor NULL -/
def badK (t k : Int) : Bool := !(k == t || k == 0)
theorem typed11_any (k t : Int) (b : Nat) (w : World) (hb : w.cell? ⟨b, 0, none⟩ = some (.int .i64 t)) : Calls Tryz.prog 76 #[.int .i64 k, .pointer (some ⟨b, 0, none⟩)] w fun e w' => e = .returned (.bool (badK t k)) ∧ w = w' := by
  by_cases h1 : k = t
  · subst h1
    go_enter Tryz.func76, Tryz.ntmps76
    go_wp2
    go_ret
    refine ⟨?_, rfl⟩
    show Ending.returned (.bool _) = _
    simp [badK]
  · go_enter Tryz.func76, Tryz.ntmps76
    go_wp2
    go_ret
    refine ⟨?_, rfl⟩
    show Ending.returned (.bool _) = _
    simp [badK]
    rfl
theorem all_bad_take {t : Int} {l : List Int} {j : Nat} {k : Int} (h : ∀ x ∈ l.take j, badK t x = false) (hk : l[j]? = some k) (hb : badK t k = false) : ∀ x ∈ l.take (j + 1), badK t x = false := by
  intro x hx
  rw [List.take_add_one, hk, Option.toList_some, List.mem_append, List.mem_singleton] at hx
  rcases hx with hx | rfl
  · exact h x hx
  · exact hb
theorem indexi_any (l : List Int) (t : Int) (b : Nat) (F : Nat → Prop) (ao : Option Addr) (cap : Nat) (w : World) (hm : l.length ≤ 100000) (hb : w.cell? ⟨b, 0, none⟩ = some (.int .i64 t)) (h : RowAt w F (.slice ao l.length cap) l.length (l.map (Value.int .i64))) :
    Calls Tryz.prog 122 #[.slice ao l.length cap, .func (.func 76) #[] #[.pointer (some ⟨b, 0, none⟩)]] w fun e w' => (∃ r : Int, e = .returned (.int .i64 r) ∧ (decide (0 ≤ r) = l.any (badK t)) ∧ -1 ≤ r) ∧ w = w' := by
  have H := Lib.hid h
  clear h
  go_enter Tryz.func122, Tryz.ntmps122
  go_wp2
  go_loopw [8] (fun i wr => wr = w ∧ ∃ j : Nat, i = .int .i64 j ∧ j ≤ l.length ∧ Hid (∀ x ∈ l.take j, badK t x = false)) (fun i _ => (l.length - intOf i).toNat)
  case atStart => exact ⟨rfl, 0, rfl, Nat.zero_le _, Lib.hid (by simp)⟩
  case round =>
    obtain ⟨rfl, j, rfl, hj, HC⟩ := hrel
    by_cases hlt : j < l.length
    · obtain ⟨k, hk⟩ : ∃ k, l[j]? = some k := ⟨_, List.getElem?_eq_getElem hlt⟩
      obtain ⟨ao', cap', e, hh⟩ := H.out
      obtain ⟨b2, o, rfl, hb2, hF, hr⟩ := hh (by omega)
      cases e
      have a0 : wr.cell? ⟨b2, o + j, none⟩ = some (.int .i64 k) := hr j _ (by simp [hk])
      have HK := Lib.hid hk
      clear hh hr hk
      obtain ⟨q, hq⟩ : ∃ q, badK t k = q := ⟨_, rfl⟩
      have HQ := Lib.hid hq
      clear hq
      go_wp2_with fail
      refine (typed11_any k t b wr hb).mono ?_
      rintro e w' ⟨rfl, rfl⟩
      rw [HQ.out]
      cases q with
      | true =>
        go_wp2
        go_ret
        refine ⟨⟨j, rfl, ?_, by omega⟩, rfl⟩
        rw [decide_eq_true (by omega)]
        exact (List.any_eq_true.2 ⟨k, List.mem_of_getElem? HK.out, HQ.out⟩).symm
      | false =>
        go_wp2
        go_round
        case rel => exact ⟨trivial, j + 1, by go_num, by omega, Lib.hid (all_bad_take HC.out HK.out HQ.out)⟩
        case measure => simp [intOf]; omega
    · obtain rfl : j = l.length := by omega
      rw [List.take_length] at HC
      go_wp2
      go_ret
      refine ⟨⟨-1, rfl, ?_, by omega⟩, rfl⟩
      rw [decide_eq_false (by omega)]
      exact (List.any_eq_false.2 (fun x hx => by rw [HC.out x hx]; simp)).symm
end Go.Proofs.YtnbckfkdmkbopaaGreatDoor

set_option autoImplicit false
namespace Go.Proofs.YtnbckfkdmkbopaaGreatDoor
open Go Go.RowKit

theorem only_any_eq (t : Int) (l : List Int) : (!(l.any (badK t))) = only t l := by
  unfold only
  rw [List.all_eq_not_any_not]
  rfl
theorem contains_any (l : List Int) (t : Int) (b : Nat) (F : Nat → Prop) (ao : Option Addr) (cap : Nat) (w : World) (hm : l.length ≤ 100000) (hb : w.cell? ⟨b, 0, none⟩ = some (.int .i64 t)) (h : RowAt w F (.slice ao l.length cap) l.length (l.map (Value.int .i64))) :
    Calls Tryz.prog 75 #[.slice ao l.length cap, .func (.func 76) #[] #[.pointer (some ⟨b, 0, none⟩)]] w fun e w' => e = .returned (.bool (l.any (badK t))) ∧ w = w' := by
  have H := Lib.hid h
  clear h
  go_enter Tryz.func75, Tryz.ntmps75
  go_wp2_with fail
  refine (indexi_any l t b F ao cap w hm hb H.out).mono ?_
  rintro e w' ⟨⟨r, rfl, hr, _⟩, rfl⟩
  have HR := Lib.hid hr
  clear hr
  go_wp2
  go_ret
  refine ⟨?_, rfl⟩
  rw [← HR.out]
  rfl
theorem only_any (l : List Int) (t : Int) (b : Nat) (F : Nat → Prop) (ao : Option Addr) (cap : Nat) (w : World) (hm : l.length ≤ 100000) (hb : w.cell? ⟨b, 0, none⟩ = some (.slice ao l.length cap)) (h : RowAt w F (.slice ao l.length cap) l.length (l.map (Value.int .i64))) :
    Calls Tryz.prog 74 #[.int .i64 t, .pointer (some ⟨b, 0, none⟩)] w fun e w' => e = .returned (.bool (only t l)) ∧ Chg NoB w w' := by
  have hmf : ∀ (fn : Fn) (first cap : Array Value) (w : World), (Instr.makeFunc fn first cap).run Tryz.prog w = .ok (.func fn first cap) w := fun _ _ _ _ => rfl
  have X : Hid (Chg NoB w (w.alloc (.cells #[.int .i64 t] 3))) := Lib.hid ((Chg.refl NoB w).alloc _)
  have H := Lib.hid (h.quiet X.out)
  have hO := Lib.hid (only_any_eq t l)
  have h1 : (w.alloc (.cells #[.int .i64 t] 3)).cell? ⟨b, 0, none⟩ = some (.slice ao l.length cap) := (cell_of_heap (hal_old (lt_of_cell hb))).trans hb
  clear h
  go_enter Tryz.func74, Tryz.ntmps74
  go_wp2_with fail
  refine (contains_any l t w.heap.size F ao cap _ hm (cell_of_row _ _ 0 _ _ _ hal_new) H.out).mono ?_
  rintro e w' ⟨rfl, rfl⟩
  go_wp2
  go_ret
  refine ⟨?_, X.out⟩
  rw [← hO.out]
  rfl
end Go.Proofs.YtnbckfkdmkbopaaGreatDoor
