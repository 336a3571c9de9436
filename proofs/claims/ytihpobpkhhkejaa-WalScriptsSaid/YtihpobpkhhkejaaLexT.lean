/-
  A region that draws its order, walked once for each order of what writes: a tree. No condition beyond each lemma's own.
-/
import Derived.Test.YtihpobpkhhkejaaLex
set_option autoImplicit false
namespace Go.Proofs.Ytihpobpkhhkejaa
open Go Go.RowKit

inductive LexT where
  | done : LexT
  | free : Nat → LexT → LexT
  | one : Nat → LexT → LexT
  | fork : Nat → Nat → LexT → LexT → LexT
section
variable {P : Program} {ops : Array Oper} {Q : Exit → Act → World → Prop} {S : World → Prop} {nl : Nat}
def wpLexT (P : Program) (ops : Array Oper) (Q : Exit → Act → World → Prop) (S : World → Prop) (nl : Nat) : LexT → Act → World → Prop
  | .done, a, w => Q .normal a w
  | .free i t, a, w => ∃ o v, ops[i]? = some o ∧ YieldsIf P ops S o v a ∧ (∀ c a w, Q (.panic c) (a.put o.dst v) w → Q (.panic c) a w) ∧ wpLexT P ops Q S nl t (a.put o.dst v) w
  | .one i t, a, w => wpOp P ops Q i (fun a' w' => (i ≠ nl → S w') ∧ wpLexT P ops Q S nl t a' w') a w
  | .fork i j s t, a, w => wpOp P ops Q i (fun a' w' => (i ≠ nl → S w') ∧ wpLexT P ops Q S nl s a' w') a w ∧ wpOp P ops Q j (fun a' w' => (j ≠ nl → S w') ∧ wpLexT P ops Q S nl t a' w') a w
def lexTChk (ops : Array Oper) (nl : Nat) : LexT → Array Bool → Nat → Bool
  | .done, listed, n => n == 0 && (Region.ready .any ops listed).isEmpty
  | .free _ _, _, 0 => false
  | .free i t, listed, n + 1 => Region.free .any ops listed i && (Region.ready .any ops listed).contains i && lexTChk ops nl t (listed.setIfInBounds i true) n
  | .one _ _, _, 0 => false
  | .one i t, listed, n + 1 => Region.ready .any ops listed == [i] && (i != nl || n == 0) && lexTChk ops nl t (listed.setIfInBounds i true) n
  | .fork _ _ _ _, _, 0 => false
  | .fork i j s t, listed, n + 1 => Region.ready .any ops listed == [i, j] && i != nl && j != nl && lexTChk ops nl s (listed.setIfInBounds i true) n && lexTChk ops nl t (listed.setIfInBounds j true) n
theorem wpAnyL_of_lexT (hnl : waitsAll ops nl = true) (hsel : ∀ (j : Nat) (o : Oper) cs b, ops[j]? = some o → o.op ≠ .select cs b) : ∀ (t : LexT) (n : Nat) (listed : Array Bool) (a : Act) (w : World),
    listed.size = ops.size → Closed ops listed → lexTChk ops nl t listed n = true → (n = 0 ∨ S w) → wpLexT P ops Q S nl t a w → wpAnyL P ops Q S nl n listed a w
  | .done, n, listed, a, w, _, _, hc, _, h => by
    simp only [lexTChk, Bool.and_eq_true, beq_iff_eq, List.isEmpty_iff] at hc
    obtain ⟨rfl, hc⟩ := hc
    exact ⟨hc, h⟩
  | .free i t, 0, listed, a, w, _, _, hc, _, h => by simp [lexTChk] at hc
  | .free i t, n + 1, listed, a, w, hsz, hcl, hc, hS, h => by
    have hSw : S w := hS.resolve_left (by simp)
    simp only [lexTChk, Bool.and_eq_true] at hc
    obtain ⟨⟨hc1, hc2⟩, hc3⟩ := hc
    obtain ⟨o, v, ho, hy, hQ, hr⟩ := h
    exact wpAnyL_first hnl ho hsel hQ n listed a w hsz hcl (Region.free_spec ho hc1) (by simpa using hc2) hy hSw (wpAnyL_of_lexT hnl hsel t n _ _ w (by simpa using hsz) (hcl.set (by simpa using hc2)) hc3 (.inr hSw) hr)
  | .one i t, 0, listed, a, w, _, _, hc, _, h => by simp [lexTChk] at hc
  | .one i t, n + 1, listed, a, w, hsz, hcl, hc, hS, h => by
    simp only [lexTChk, Bool.and_eq_true, beq_iff_eq, Bool.or_eq_true, bne_iff_ne, ne_eq] at hc
    obtain ⟨⟨hc1, hc2⟩, hc3⟩ := hc
    refine ⟨fun h0 => (by rw [hc1] at h0; cases h0), fun j hj => ?_⟩
    rw [hc1] at hj
    have : j = i := by simpa using hj
    subst this
    refine wpOp_mono (fun a' w' h' => ⟨h'.1, wpAnyL_of_lexT hnl hsel t n _ a' w' (by simpa using hsz) (hcl.set (by rw [hc1]; simp)) hc3 ?_ h'.2⟩) h
    rcases hc2 with h2 | h2
    · exact .inr (h'.1 h2)
    · exact .inl h2
  | .fork i j s t, 0, listed, a, w, _, _, hc, _, h => by simp [lexTChk] at hc
  | .fork i j s t, n + 1, listed, a, w, hsz, hcl, hc, hS, h => by
    simp only [lexTChk, Bool.and_eq_true, beq_iff_eq, bne_iff_ne, ne_eq] at hc
    obtain ⟨⟨⟨⟨hc1, hci⟩, hcj⟩, hc2⟩, hc3⟩ := hc
    refine ⟨fun h0 => (by rw [hc1] at h0; cases h0), fun k hk => ?_⟩
    have hk' := hk
    rw [hc1] at hk'
    have hkk : k = i ∨ k = j := by simpa using hk'
    rcases hkk with rfl | rfl
    · exact wpOp_mono (fun a' w' h' => ⟨h'.1, wpAnyL_of_lexT hnl hsel s n _ a' w' (by simpa using hsz) (hcl.set hk) hc2 (.inr (h'.1 hci)) h'.2⟩) h.1
    · exact wpOp_mono (fun a' w' h' => ⟨h'.1, wpAnyL_of_lexT hnl hsel t n _ a' w' (by simpa using hsz) (hcl.set hk) hc3 (.inr (h'.1 hcj)) h'.2⟩) h.2
def lexTOk (ops : Array Oper) (nl : Nat) (t : LexT) : Bool := waitsAll ops nl && Region.noSelect ops && lexTChk ops nl t (Array.replicate ops.size false) ops.size
theorem wp_region_lexT {id : Nat} {a : Act} {w : World} (S : World → Prop) (nl : Nat) (t : LexT) (hm : P.follows .mixedOrders = true) (hc : lexTOk ops nl t = true) (hS : S w.drew)
    (h : wpLexT P ops Q S nl t a w.drew) : (Code.region id ops true).wp P Q a w := by
  simp only [lexTOk, Bool.and_eq_true] at hc
  have := wpAnyL_of_lexT hc.1.1 (Region.noSelect_spec hc.1.2) t ops.size (Array.replicate ops.size false) a w.drew (by simp) (fun k _ _ hl => by exfalso; rcases Nat.lt_or_ge k ops.size with h' | h' <;> simp [h'] at hl) hc.2 (.inr hS) h
  exact wp_region_any hm (wpAny_of_lex _ _ _ _ this)
variable {a : Act} {w : World} {o : Oper} {i j : Nat} {tl : List Oper} {s t : LexT}
theorem lexT_done (h : Q .normal a w) : wpLexT P ops Q S nl .done a w := h
theorem lexT_free {v : Value} (ho : ops.toList.drop i = o :: tl) (hg : o.guard = none) (hv : ∀ W, S W → (execOp a.eval o).run P W = .ok (.value v) W) (hQ : ∀ c a w, Q (.panic c) (a.put o.dst v) w → Q (.panic c) a w)
    (h : wpLexT P ops Q S nl t (a.put o.dst v) w) : wpLexT P ops Q S nl (.free i t) a w :=
  ⟨o, v, drop_get ho, .inl ⟨by simp [Region.wanted, hg], hv⟩, hQ, h⟩
theorem lexT_one (ho : ops.toList.drop i = o :: tl) (hg : o.guard = none)
    (h : ∀ K : Act → World → Prop, (∀ a w, (i ≠ nl → S w) → wpLexT P ops Q S nl t a w → K a w) → o.wp P a w K Q) : wpLexT P ops Q S nl (.one i t) a w := by
  have ho := drop_get ho
  simp only [wpLexT, wpOp, ho]
  rw [if_pos (by simp [Region.wanted, hg])]
  exact .inl (h _ fun _ _ h1 h2 => ⟨h1, h2⟩)
theorem lexT_fork {o2 : Oper} {tl2 : List Oper} (ho : ops.toList.drop i = o :: tl) (hg : o.guard = none) (ho2 : ops.toList.drop j = o2 :: tl2) (hg2 : o2.guard = none)
    (h : ∀ K : Act → World → Prop, (∀ a w, (i ≠ nl → S w) → wpLexT P ops Q S nl s a w → K a w) → o.wp P a w K Q)
    (h2 : ∀ K : Act → World → Prop, (∀ a w, (j ≠ nl → S w) → wpLexT P ops Q S nl t a w → K a w) → o2.wp P a w K Q) : wpLexT P ops Q S nl (.fork i j s t) a w := by
  have ho := drop_get ho
  have ho2 := drop_get ho2
  simp only [wpLexT, wpOp, ho, ho2]
  rw [if_pos (by simp [Region.wanted, hg]), if_pos (by simp [Region.wanted, hg2])]
  exact ⟨.inl (h _ fun _ _ h1 h2 => ⟨h1, h2⟩), .inl (h2 _ fun _ _ h1 h2 => ⟨h1, h2⟩)⟩
end
end Go.Proofs.Ytihpobpkhhkejaa
