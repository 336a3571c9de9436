/-
  What is read of a text has leaves that can be printed: tokens, then trees, in plain Lean. No condition beyond each lemma's own.
-/
import Derived.Test.YtnbckfkdmkbopaaGreatDoorTH37
set_option autoImplicit false
namespace Go.Proofs.YtnbckfkdmkbopaaGreatDoor
open Go

def TokOk (t : Tok) : Prop := (t.kind = 2 → NameOk t.text) ∧ (t.kind = 3 → ∃ n : Nat, n ≤ 9223372036854775807 ∧ t.num = n) ∧ (t.kind = 4 → t.text.length ≤ 64)
theorem byte_all {p : UInt8 → Prop} (h : ∀ n : Fin 256, p (UInt8.ofNat n.val)) : ∀ x : UInt8, p x := by
  intro x
  have h := h ⟨x.toNat, x.toNat_lt⟩
  simpa using h
theorem low_let : ∀ x : UInt8, letB (Lib.lowerB x) = letB x := byte_all (by decide +kernel)
theorem low_word : ∀ x : UInt8, wordB (Lib.lowerB x) = wordB x := byte_all (by decide +kernel)
theorem low_low : ∀ x : UInt8, Lib.lowerB (Lib.lowerB x) = Lib.lowerB x := byte_all (by decide +kernel)
theorem up_low : ∀ x : UInt8, Lib.upperB (Lib.lowerB x) = Lib.upperB x := byte_all (by decide +kernel)
theorem dig_num : ∀ x : UInt8, digB x = true → 48 ≤ x.toNat ∧ x.toNat ≤ 57 := byte_all (by decide +kernel)
theorem tw_all (p : UInt8 → Bool) : ∀ l : Str, (l.takeWhile p).all p = true
  | [] => rfl
  | x :: l => by
    rw [List.takeWhile_cons]
    split
    · rename_i h; simp [h, tw_all p l]
    · rfl
theorem map_id_of {f : UInt8 → UInt8} {l : Str} (h : ∀ x ∈ l, f x = x) : l.map f = l := by
  induction l with
  | nil => rfl
  | cons a l ih => rw [List.map_cons, h a (.head _), ih fun x hx => h x (.tail _ hx)]
theorem name_of {x : UInt8} {r : Str} (hx : letB x = true) (hk : isKw (((x :: r).takeWhile wordB).map Lib.upperB) = false) (hl : ((x :: r).takeWhile wordB).length ≤ 32) : NameOk (((x :: r).takeWhile wordB).map Lib.lowerB) := by
  have hw : (x :: r).takeWhile wordB = x :: r.takeWhile wordB := by rw [List.takeWhile_cons, if_pos (word_let hx)]
  have ha := tw_all wordB (x :: r)
  rw [hw] at hk hl ha ⊢
  refine ⟨by simp, ?_, ?_, ?_, ?_, by rw [List.length_map]; exact hl⟩
  · show letB (Lib.lowerB x) = true
    rw [low_let, hx]
  · rw [List.all_map]
    have : (wordB ∘ Lib.lowerB) = wordB := funext low_word
    rw [this]
    exact ha
  · rw [List.map_map]
    congr 1
    exact funext low_low
  · rw [List.map_map]
    have : (Lib.upperB ∘ Lib.lowerB) = Lib.upperB := funext up_low
    rw [this]
    exact hk
theorem num_of : ∀ (l : Str) (m : Nat) (n : Int), l.all digB = true → m ≤ 9223372036854775807 → numL l m = some n → ∃ k : Nat, k ≤ 9223372036854775807 ∧ n = k
  | [], m, n, _, hm, h => by
    simp only [numL, Option.some.injEq] at h
    exact ⟨m, hm, h.symm⟩
  | x :: l, m, n, ha, hm, h => by
    simp only [List.all_cons, Bool.and_eq_true] at ha
    obtain ⟨h1, h2⟩ := dig_num x ha.1
    simp only [numL] at h
    split at h
    · cases h
    · rename_i hb
      have e : (10 * (m : Int) + ((x.toNat : Int) - 48)) = ((10 * m + (x.toNat - 48) : Nat) : Int) := by omega
      rw [e] at h
      exact num_of l _ n ha.2 (by omega) h
theorem text_of : ∀ (k : Nat) (l b s r : Str), l.length ≤ k → textL l b = some (s, r) → s.length ≤ 64
  | _, [], b, s, r, _, h => by simp [textL] at h
  | 0, _ :: _, b, s, r, hl, h => by simp at hl
  | k + 1, x :: l, b, s, r, hl, h => by
    simp only [List.length_cons] at hl
    unfold textL at h
    split at h
    · split at h
      · split at h
        · rename_i hb; cases h; exact hb
        · cases h
      · rename_i y r'
        simp only [List.length_cons] at hl
        split at h
        · exact text_of k r' _ s r (by omega) h
        · split at h
          · rename_i hb; cases h; exact hb
          · cases h
    · exact text_of k l _ s r (by omega) h
theorem sign_of {l : Str} {t : Tok} {r : Str} (h : signL l = some (t, r)) : t.kind = 5 := by
  unfold signL at h
  split at h
  · cases h
  · split at h
    · cases h; rfl
    · cases h
  · split at h
    · cases h; rfl
    · split at h
      · cases h; rfl
      · cases h
theorem one_of {x : UInt8} {r r' : Str} {t : Tok} (h : oneL x r = some (t, r')) : TokOk t := by
  unfold oneL at h
  split at h
  · rename_i hx
    unfold wordL at h
    split at h
    · cases h; exact ⟨(fun h => by cases h), (fun h => by cases h), (fun h => by cases h)⟩
    · rename_i hk
      split at h
      · rename_i hl
        cases h
        exact ⟨fun _ => name_of hx (by simpa using hk) hl, (fun h => by cases h), (fun h => by cases h)⟩
      · cases h
  · split at h
    · unfold numberL at h
      split at h
      · cases h
      · rename_i n hn
        split at h
        · cases h
        · cases h
          exact ⟨(fun h => by cases h), fun _ => num_of _ 0 n (tw_all _ _) (by omega) hn, fun h => by cases h⟩
    · split at h
      · unfold quoteL at h
        split at h
        · cases h
        · rename_i b r2 hb
          cases h
          exact ⟨(fun h => by cases h), (fun h => by cases h), fun _ => text_of _ _ _ _ _ (Nat.le_refl _) hb⟩
      · have := sign_of h
        exact ⟨(fun h => by omega), (fun h => by omega), fun h => by omega⟩
theorem lexAll_ok : ∀ (n : Nat) (l : Str) (ts : List Tok), lexAll n l = some ts → ∀ t ∈ ts, TokOk t := by
  intro n
  induction n with
  | zero =>
    intro l ts h
    unfold lexAll at h
    split at h
    · cases h; intro t ht; cases ht
    · cases h
  | succ n ih =>
    intro l ts h
    unfold lexAll at h
    split at h
    · cases h; intro t ht; cases ht
    · simp only at h
      split at h
      · cases h
      · rename_i t0 r' h0
        split at h
        · cases h
        · rename_i ts' h'
          cases h
          intro t ht
          rcases List.mem_cons.1 ht with rfl | ht
          · exact one_of h0
          · exact ih _ _ h' t ht
/-! trees -/
def LeafP (g : Ptree) : Prop := ∀ ts x r, (∀ t ∈ ts, TokOk t) → g ts = some (x, r) → Leaves x ∧ ∀ t ∈ r, TokOk t
theorem nextT_ok {k : Int} {s : Str} {ts r : List Tok} (h : nextT k s ts = some r) (ht : ∀ t ∈ ts, TokOk t) : ∀ t ∈ r, TokOk t := by
  cases ts with
  | nil => cases h
  | cons a l =>
    simp only [nextT] at h
    split at h
    · cases h; exact fun t hh => ht t (.tail _ hh)
    · cases h
theorem pick_ok {k : Int} {ops : List (Str × Int)} {ts r : List Tok} {o : Int} (h : pick k ops ts = some (o, r)) (ht : ∀ t ∈ ts, TokOk t) : ∀ t ∈ r, TokOk t := by
  induction ops with
  | nil => simp [pick] at h
  | cons a l ih =>
    obtain ⟨s, n⟩ := a
    simp only [pick] at h
    split at h
    next r' hr => cases h; exact nextT_ok hr ht
    next => exact ih h
theorem chainL_leaf {part : Ptree} (hp : LeafP part) (k : Int) (ops : List (Str × Int)) : ∀ (n : Nat) (x : Ex) (ts : List Tok) (y : Ex) (r : List Tok), Leaves x → (∀ t ∈ ts, TokOk t) → chainL part k ops n x ts = some (y, r) → Leaves y ∧ ∀ t ∈ r, TokOk t := by
  intro n
  induction n with
  | zero => intro x ts y r _ _ h; simp [chainL] at h
  | succ n ih =>
    intro x ts y r hx ht h
    simp only [chainL] at h
    split at h
    next => cases h; exact ⟨hx, ht⟩
    next o ts' h1 =>
      split at h
      next => cases h
      next z ts'' h2 =>
        obtain ⟨hz, ht2⟩ := hp _ _ _ (pick_ok h1 ht) h2
        exact ih (.bin o x z) _ _ _ ⟨hx, hz⟩ ht2 h
theorem chainP_leaf {part : Ptree} (hp : LeafP part) (k : Int) (ops : List (Str × Int)) : LeafP (chainP part k ops) := by
  intro ts x r ht h
  simp only [chainP] at h
  split at h
  next => cases h
  next y ts' h1 =>
    obtain ⟨hy, ht2⟩ := hp _ _ _ ht h1
    exact chainL_leaf hp k ops _ _ _ _ _ hy ht2 h
theorem unP_leaf {part : Ptree} (hp : LeafP part) {k : Int} {ts : List Tok} {x : Ex} {r : List Tok} (ht : ∀ t ∈ ts, TokOk t) (h : unP k part ts = some (x, r)) : Leaves x ∧ ∀ t ∈ r, TokOk t := by
  simp only [unP] at h
  split at h
  next => cases h
  next y ts' h1 =>
    cases h
    exact hp _ y _ ht h1
theorem notTail_leaf {part : Ptree} (hp : LeafP part) {x y : Ex} {ts r : List Tok} (hx : Leaves x) (ht : ∀ t ∈ ts, TokOk t) (h : notTail part x ts = some (y, r)) : Leaves y ∧ ∀ t ∈ r, TokOk t := by
  simp only [notTail] at h
  split at h
  next o r1 h1 =>
    split at h
    next => cases h
    next z r2 h2 =>
      cases h
      obtain ⟨hz, ht2⟩ := hp _ _ _ (pick_ok h1 ht) h2
      exact ⟨⟨hx, hz⟩, ht2⟩
  next =>
    split at h
    next => cases h; exact ⟨hx, ht⟩
    next r1 h1 =>
      have k1 := nextT_ok h1 ht
      split at h
      next r2 h2 =>
        split at h
        next => cases h
        next r3 h3 => cases h; exact ⟨hx, nextT_ok h3 (nextT_ok h2 k1)⟩
      next =>
        split at h
        next => cases h
        next r3 h3 => cases h; exact ⟨hx, nextT_ok h3 k1⟩
theorem closeP_leaf {x y : Ex} {ts r : List Tok} (hx : Leaves x) (ht : ∀ t ∈ ts, TokOk t) (h : closeP x ts = some (y, r)) : Leaves y ∧ ∀ t ∈ r, TokOk t := by
  simp only [closeP] at h
  split at h
  next => cases h
  next r1 h1 => cases h; exact ⟨hx, nextT_ok h1 ht⟩
theorem keyP_leaf {g : Ptree} (hg : LeafP g) {s : Str} {ts r : List Tok} {x : Ex} (ht : ∀ t ∈ ts, TokOk t) (h : keyP g s ts = some (x, r)) : Leaves x ∧ ∀ t ∈ r, TokOk t := by
  simp only [keyP] at h
  split at h
  next => cases h; exact ⟨.inr (.inr (.inr (.inl rfl))), ht⟩
  split at h
  next => cases h; exact ⟨.inr (.inr (.inl rfl)), ht⟩
  split at h
  next => cases h; exact ⟨.inl rfl, ht⟩
  split at h
  next => cases h
  next k hk =>
    split at h
    next => cases h
    next r1 h1 =>
      have k1 := nextT_ok h1 ht
      split at h
      next r2 h2 =>
        have k2 : ∀ t ∈ r2, TokOk t := by
          split at h2
          · exact nextT_ok h2 k1
          · cases h2
        exact closeP_leaf (x := .cnt) trivial k2 h
      next =>
        split at h
        next => cases h
        next y r2 h2 =>
          obtain ⟨hy, k2⟩ := hg _ _ _ k1 h2
          exact closeP_leaf (x := .un k y) hy k2 h
theorem atomP_leaf {g : Ptree} (hg : LeafP g) : LeafP (atomP g) := by
  intro ts x r ht h
  cases ts with
  | nil => simp [atomP] at h
  | cons t r0 =>
    have h0 := ht t (.head _)
    have hr : ∀ u ∈ r0, TokOk u := fun u hu => ht u (.tail _ hu)
    simp only [atomP] at h
    split at h
    next hk =>
      cases h
      obtain ⟨n, hn, e⟩ := h0.2.1 (by simpa using hk)
      exact ⟨.inr (.inl ⟨n, hn, by rw [e]⟩), hr⟩
    split at h
    next hk =>
      cases h
      exact ⟨.inr (.inr (.inr (.inr ⟨_, h0.2.2 (by simpa using hk), rfl⟩))), hr⟩
    split at h
    next hk =>
      have hn := h0.1 (by simpa using hk)
      split at h
      next => cases h; exact ⟨⟨.inl rfl, hn⟩, hr⟩
      next r1 h1 =>
        have k1 := nextT_ok h1 hr
        split at h
        next => cases h
        next u r2 =>
          split at h
          next hu =>
            cases h
            exact ⟨⟨.inr hn, (k1 u (.head _)).1 (by simpa using hu)⟩, fun v hv => k1 v (.tail _ hv)⟩
          next => cases h
    split at h
    next => exact keyP_leaf hg hr h
    next =>
      split at h
      next => cases h
      next r1 h1 =>
        have k1 := nextT_ok h1 ht
        split at h
        next => cases h
        next y r2 h2 =>
          obtain ⟨hy, k2⟩ := hg _ _ _ k1 h2
          exact closeP_leaf hy k2 h
theorem pE_leaf : ∀ n l, LeafP (pE n l) := by
  intro n
  induction n with
  | zero => intro l ts x r _ h; simp [pE] at h
  | succ n ih =>
    intro l
    match l with
    | 0 => exact chainP_leaf (ih 1) _ _
    | 1 => exact chainP_leaf (ih 2) _ _
    | 2 =>
      intro ts x r ht h
      simp only [pE] at h
      split at h
      next r1 h1 => exact unP_leaf (ih 2) (nextT_ok h1 ht) h
      next =>
        split at h
        next => cases h
        next y ts' h1 =>
          obtain ⟨hy, k1⟩ := ih 3 _ _ _ ht h1
          exact notTail_leaf (ih 3) hy k1 h
    | 3 => exact chainP_leaf (ih 4) _ _
    | 4 => exact chainP_leaf (ih 5) _ _
    | 5 =>
      intro ts x r ht h
      simp only [pE] at h
      split at h
      next r1 h1 => exact unP_leaf (ih 5) (nextT_ok h1 ht) h
      next => exact ih 6 _ _ _ ht h
    | l + 6 => exact atomP_leaf (ih 0)
theorem read_leaves {text : Str} {x : Ex} (h : readL text = some x) : Leaves x ∧ x.hgt ≤ 32 := by
  unfold readL at h
  split at h
  · cases h
  · rename_i ts hts
    unfold lexS at hts
    split at hts
    · cases hts
    · have ok := lexAll_ok _ _ _ hts
      split at h
      · cases h
      · rename_i y r hp
        split at h
        · rename_i hc
          cases h
          simp only [Bool.and_eq_true, decide_eq_true_eq] at hc
          exact ⟨(pE_leaf _ _ _ _ _ (fun t ht => ok t (List.mem_of_mem_drop ht)) hp).1, hc.2⟩
        · cases h
end Go.Proofs.YtnbckfkdmkbopaaGreatDoor
