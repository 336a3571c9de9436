/-
  A region that draws its order, walked once for each order of what writes: a tree, of two ways or three. No condition beyond each lemma's own.
-/
import Derived.Test.YtnbckfkdmkbopaaGreatDoorTH02
set_option autoImplicit false
namespace Go.Proofs.YtnbckfkdmkbopaaGreatDoor
open Go Go.RowKit

inductive LexF where
  | done : LexF
  | free : Nat → LexF → LexF
  | one : Nat → LexF → LexF
  | fork : Nat → Nat → LexF → LexF → LexF
  | tri : Nat → Nat → Nat → LexF → LexF → LexF → LexF
section
variable {P : Program} {ops : Array Oper} {Q : Exit → Act → World → Prop} {S : World → Prop} {nl : Nat}
def wpLexF (P : Program) (ops : Array Oper) (Q : Exit → Act → World → Prop) (S : World → Prop) (nl : Nat) : LexF → Act → World → Prop
  | .done, a, w => Q .normal a w
  | .free i t, a, w => ∃ o v, ops[i]? = some o ∧ YieldsIf P ops S o v a ∧ (∀ c a w, Q (.panic c) (a.put o.dst v) w → Q (.panic c) a w) ∧ wpLexF P ops Q S nl t (a.put o.dst v) w
  | .one i t, a, w => wpOp P ops Q i (fun a' w' => (i ≠ nl → S w') ∧ wpLexF P ops Q S nl t a' w') a w
  | .fork i j s t, a, w => wpOp P ops Q i (fun a' w' => (i ≠ nl → S w') ∧ wpLexF P ops Q S nl s a' w') a w ∧ wpOp P ops Q j (fun a' w' => (j ≠ nl → S w') ∧ wpLexF P ops Q S nl t a' w') a w
  | .tri i j k s t u, a, w => wpOp P ops Q i (fun a' w' => (i ≠ nl → S w') ∧ wpLexF P ops Q S nl s a' w') a w ∧ wpOp P ops Q j (fun a' w' => (j ≠ nl → S w') ∧ wpLexF P ops Q S nl t a' w') a w ∧ wpOp P ops Q k (fun a' w' => (k ≠ nl → S w') ∧ wpLexF P ops Q S nl u a' w') a w
def lexFChk (ops : Array Oper) (nl : Nat) : LexF → Array Bool → Nat → Bool
  | .done, listed, n => n == 0 && (Region.ready .any ops listed).isEmpty
  | .free _ _, _, 0 => false
  | .free i t, listed, n + 1 => Region.free .any ops listed i && (Region.ready .any ops listed).contains i && lexFChk ops nl t (listed.setIfInBounds i true) n
  | .one _ _, _, 0 => false
  | .one i t, listed, n + 1 => Region.ready .any ops listed == [i] && (i != nl || n == 0) && lexFChk ops nl t (listed.setIfInBounds i true) n
  | .fork _ _ _ _, _, 0 => false
  | .fork i j s t, listed, n + 1 => Region.ready .any ops listed == [i, j] && i != nl && j != nl && lexFChk ops nl s (listed.setIfInBounds i true) n && lexFChk ops nl t (listed.setIfInBounds j true) n
  | .tri _ _ _ _ _ _, _, 0 => false
  | .tri i j k s t u, listed, n + 1 => Region.ready .any ops listed == [i, j, k] && i != nl && j != nl && k != nl && lexFChk ops nl s (listed.setIfInBounds i true) n && lexFChk ops nl t (listed.setIfInBounds j true) n && lexFChk ops nl u (listed.setIfInBounds k true) n
theorem wpAnyL_of_lexF (hnl : waitsAll ops nl = true) (hsel : ∀ (j : Nat) (o : Oper) cs b, ops[j]? = some o → o.op ≠ .select cs b) : ∀ (t : LexF) (n : Nat) (listed : Array Bool) (a : Act) (w : World),
    listed.size = ops.size → Closed ops listed → lexFChk ops nl t listed n = true → (n = 0 ∨ S w) → wpLexF P ops Q S nl t a w → wpAnyL P ops Q S nl n listed a w
  | .done, n, listed, a, w, _, _, hc, _, h => by
    simp only [lexFChk, Bool.and_eq_true, beq_iff_eq, List.isEmpty_iff] at hc
    obtain ⟨rfl, hc⟩ := hc
    exact ⟨hc, h⟩
  | .free i t, 0, listed, a, w, _, _, hc, _, h => by simp [lexFChk] at hc
  | .free i t, n + 1, listed, a, w, hsz, hcl, hc, hS, h => by
    have hSw : S w := hS.resolve_left (by simp)
    simp only [lexFChk, Bool.and_eq_true] at hc
    obtain ⟨⟨hc1, hc2⟩, hc3⟩ := hc
    obtain ⟨o, v, ho, hy, hQ, hr⟩ := h
    exact wpAnyL_first hnl ho hsel hQ n listed a w hsz hcl (Region.free_spec ho hc1) (by simpa using hc2) hy hSw (wpAnyL_of_lexF hnl hsel t n _ _ w (by simpa using hsz) (hcl.set (by simpa using hc2)) hc3 (.inr hSw) hr)
  | .one i t, 0, listed, a, w, _, _, hc, _, h => by simp [lexFChk] at hc
  | .one i t, n + 1, listed, a, w, hsz, hcl, hc, hS, h => by
    simp only [lexFChk, Bool.and_eq_true, beq_iff_eq, Bool.or_eq_true, bne_iff_ne, ne_eq] at hc
    obtain ⟨⟨hc1, hc2⟩, hc3⟩ := hc
    refine ⟨fun h0 => (by rw [hc1] at h0; cases h0), fun j hj => ?_⟩
    rw [hc1] at hj
    have : j = i := by simpa using hj
    subst this
    refine wpOp_mono (fun a' w' h' => ⟨h'.1, wpAnyL_of_lexF hnl hsel t n _ a' w' (by simpa using hsz) (hcl.set (by rw [hc1]; simp)) hc3 ?_ h'.2⟩) h
    rcases hc2 with h2 | h2
    · exact .inr (h'.1 h2)
    · exact .inl h2
  | .fork i j s t, 0, listed, a, w, _, _, hc, _, h => by simp [lexFChk] at hc
  | .fork i j s t, n + 1, listed, a, w, hsz, hcl, hc, hS, h => by
    simp only [lexFChk, Bool.and_eq_true, beq_iff_eq, bne_iff_ne, ne_eq] at hc
    obtain ⟨⟨⟨⟨hc1, hci⟩, hcj⟩, hc2⟩, hc3⟩ := hc
    refine ⟨fun h0 => (by rw [hc1] at h0; cases h0), fun k hk => ?_⟩
    have hk' := hk
    rw [hc1] at hk'
    have hkk : k = i ∨ k = j := by simpa using hk'
    rcases hkk with rfl | rfl
    · exact wpOp_mono (fun a' w' h' => ⟨h'.1, wpAnyL_of_lexF hnl hsel s n _ a' w' (by simpa using hsz) (hcl.set hk) hc2 (.inr (h'.1 hci)) h'.2⟩) h.1
    · exact wpOp_mono (fun a' w' h' => ⟨h'.1, wpAnyL_of_lexF hnl hsel t n _ a' w' (by simpa using hsz) (hcl.set hk) hc3 (.inr (h'.1 hcj)) h'.2⟩) h.2
  | .tri i j k s t u, 0, listed, a, w, _, _, hc, _, h => by simp [lexFChk] at hc
  | .tri i j l s t u, n + 1, listed, a, w, hsz, hcl, hc, hS, h => by
    simp only [lexFChk, Bool.and_eq_true, beq_iff_eq, bne_iff_ne, ne_eq] at hc
    obtain ⟨⟨⟨⟨⟨⟨hc1, hci⟩, hcj⟩, hck⟩, hc2⟩, hc3⟩, hc4⟩ := hc
    refine ⟨fun h0 => (by rw [hc1] at h0; cases h0), fun k hk => ?_⟩
    have hk' := hk
    rw [hc1] at hk'
    have hkk : k = i ∨ k = j ∨ k = l := by simpa using hk'
    rcases hkk with rfl | rfl | rfl
    · exact wpOp_mono (fun a' w' h' => ⟨h'.1, wpAnyL_of_lexF hnl hsel s n _ a' w' (by simpa using hsz) (hcl.set hk) hc2 (.inr (h'.1 hci)) h'.2⟩) h.1
    · exact wpOp_mono (fun a' w' h' => ⟨h'.1, wpAnyL_of_lexF hnl hsel t n _ a' w' (by simpa using hsz) (hcl.set hk) hc3 (.inr (h'.1 hcj)) h'.2⟩) h.2.1
    · exact wpOp_mono (fun a' w' h' => ⟨h'.1, wpAnyL_of_lexF hnl hsel u n _ a' w' (by simpa using hsz) (hcl.set hk) hc4 (.inr (h'.1 hck)) h'.2⟩) h.2.2
def lexFOk (ops : Array Oper) (nl : Nat) (t : LexF) : Bool := waitsAll ops nl && Region.noSelect ops && lexFChk ops nl t (Array.replicate ops.size false) ops.size
theorem wp_region_lexF {id : Nat} {a : Act} {w : World} (S : World → Prop) (nl : Nat) (t : LexF) (hm : P.follows .mixedOrders = true) (hc : lexFOk ops nl t = true) (hS : S w.drew)
    (h : wpLexF P ops Q S nl t a w.drew) : (Code.region id ops true).wp P Q a w := by
  simp only [lexFOk, Bool.and_eq_true] at hc
  have := wpAnyL_of_lexF hc.1.1 (Region.noSelect_spec hc.1.2) t ops.size (Array.replicate ops.size false) a w.drew (by simp) (fun k _ _ hl => by exfalso; rcases Nat.lt_or_ge k ops.size with h' | h' <;> simp [h'] at hl) hc.2 (.inr hS) h
  exact wp_region_any hm (wpAny_of_lex _ _ _ _ this)
variable {a : Act} {w : World} {o : Oper} {i j : Nat} {tl : List Oper} {s t : LexF}
theorem lexF_done (h : Q .normal a w) : wpLexF P ops Q S nl .done a w := h
theorem lexF_free {v : Value} (ho : ops.toList.drop i = o :: tl) (hg : o.guard = none) (hv : ∀ W, S W → (execOp a.eval o).run P W = .ok (.value v) W) (hQ : ∀ c a w, Q (.panic c) (a.put o.dst v) w → Q (.panic c) a w)
    (h : wpLexF P ops Q S nl t (a.put o.dst v) w) : wpLexF P ops Q S nl (.free i t) a w :=
  ⟨o, v, drop_get ho, .inl ⟨by simp [Region.wanted, hg], hv⟩, hQ, h⟩
theorem lexF_one (ho : ops.toList.drop i = o :: tl) (hg : o.guard = none)
    (h : ∀ K : Act → World → Prop, (∀ a w, (i ≠ nl → S w) → wpLexF P ops Q S nl t a w → K a w) → o.wp P a w K Q) : wpLexF P ops Q S nl (.one i t) a w := by
  have ho := drop_get ho
  simp only [wpLexF, wpOp, ho]
  rw [if_pos (by simp [Region.wanted, hg])]
  exact .inl (h _ fun _ _ h1 h2 => ⟨h1, h2⟩)
theorem lexF_fork {o2 : Oper} {tl2 : List Oper} (ho : ops.toList.drop i = o :: tl) (hg : o.guard = none) (ho2 : ops.toList.drop j = o2 :: tl2) (hg2 : o2.guard = none)
    (h : ∀ K : Act → World → Prop, (∀ a w, (i ≠ nl → S w) → wpLexF P ops Q S nl s a w → K a w) → o.wp P a w K Q)
    (h2 : ∀ K : Act → World → Prop, (∀ a w, (j ≠ nl → S w) → wpLexF P ops Q S nl t a w → K a w) → o2.wp P a w K Q) : wpLexF P ops Q S nl (.fork i j s t) a w := by
  have ho := drop_get ho
  have ho2 := drop_get ho2
  simp only [wpLexF, wpOp, ho, ho2]
  rw [if_pos (by simp [Region.wanted, hg]), if_pos (by simp [Region.wanted, hg2])]
  exact ⟨.inl (h _ fun _ _ h1 h2 => ⟨h1, h2⟩), .inl (h2 _ fun _ _ h1 h2 => ⟨h1, h2⟩)⟩
theorem lexF_tri {l : Nat} {u : LexF} {o2 o3 : Oper} {tl2 tl3 : List Oper} (ho : ops.toList.drop i = o :: tl) (hg : o.guard = none) (ho2 : ops.toList.drop j = o2 :: tl2) (hg2 : o2.guard = none) (ho3 : ops.toList.drop l = o3 :: tl3) (hg3 : o3.guard = none)
    (h : ∀ K : Act → World → Prop, (∀ a w, (i ≠ nl → S w) → wpLexF P ops Q S nl s a w → K a w) → o.wp P a w K Q)
    (h2 : ∀ K : Act → World → Prop, (∀ a w, (j ≠ nl → S w) → wpLexF P ops Q S nl t a w → K a w) → o2.wp P a w K Q)
    (h3 : ∀ K : Act → World → Prop, (∀ a w, (l ≠ nl → S w) → wpLexF P ops Q S nl u a w → K a w) → o3.wp P a w K Q) : wpLexF P ops Q S nl (.tri i j l s t u) a w := by
  have ho := drop_get ho
  have ho2 := drop_get ho2
  have ho3 := drop_get ho3
  simp only [wpLexF, wpOp, ho, ho2, ho3]
  rw [if_pos (by simp [Region.wanted, hg]), if_pos (by simp [Region.wanted, hg2]), if_pos (by simp [Region.wanted, hg3])]
  exact ⟨.inl (h _ fun _ _ h1 h2 => ⟨h1, h2⟩), .inl (h2 _ fun _ _ h1 h2 => ⟨h1, h2⟩), .inl (h3 _ fun _ _ h1 h2 => ⟨h1, h2⟩)⟩
end
end Go.Proofs.YtnbckfkdmkbopaaGreatDoor
