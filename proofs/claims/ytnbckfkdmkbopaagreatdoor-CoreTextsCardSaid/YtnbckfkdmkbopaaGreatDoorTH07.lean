/-
  A region that draws its order of evaluation, walked once in one order, where several operations come last in a forced chain: the theorem and its steps. No condition beyond each lemma's own.
-/
import Derived.Test.YtnbckfkdmkbopaaGreatDoorTH02
set_option autoImplicit false
namespace Go.Proofs.YtnbckfkdmkbopaaGreatDoor
open Go Go.RowKit

/-! A region that draws its order, walked once in ONE order: what only reads is taken where it stands in that order, if it yields its value in every world that meets S; what writes or calls stands in a forced chain. -/
section
variable {P : Program} {ops : Array Oper} {Q : Exit → Act → World → Prop} {S : World → Prop} {late : List Nat}
def wpAnyU (P : Program) (ops : Array Oper) (Q : Exit → Act → World → Prop) (S : World → Prop) (late : List Nat) : Nat → Array Bool → Act → World → Prop
  | 0, listed, a, w => Region.ready .any ops listed = [] ∧ Q .normal a w
  | fuel + 1, listed, a, w =>
    (Region.ready .any ops listed = [] → Q .normal a w) ∧
    ∀ i ∈ Region.ready .any ops listed, wpOp P ops Q i (fun a' w' => (late.contains i = false → S w') ∧ wpAnyU P ops Q S late fuel (listed.setIfInBounds i true) a' w') a w
theorem wpAny_of_lexU : ∀ (fuel : Nat) (listed : Array Bool) (a : Act) (w : World), wpAnyU P ops Q S late fuel listed a w → wpAny P .any ops Q fuel listed a w
  | 0, _, _, _, h => h
  | fuel + 1, _, _, _, h => ⟨h.1, fun i hi => wpOp_mono (fun a' w' h' => wpAny_of_lexU fuel _ a' w' h'.2) (h.2 i hi)⟩
/-- each of the late ones waits for all that are not -/
def waitsU (ops : Array Oper) (late : List Nat) : Bool := late.all fun nl => decide (ops.size ≤ nl) || (List.range ops.size).all fun k => late.contains k || waits ops 9 nl k
theorem waitsU_spec (h : waitsU ops late = true) {listed : Array Bool} {i nl : Nat} (hl : late.contains nl = true) (hc : Closed ops listed) (hn : nl ∈ Region.ready .any ops listed) (hi : i < ops.size) (hne : late.contains i = false) : listed.getD i false = true := by
  obtain ⟨_, o, ho, hall⟩ := mem_ready.1 hn
  have hlt : nl < ops.size := (Array.getElem?_eq_some_iff.1 ho).1
  unfold waitsU at h
  have h := List.all_eq_true.1 h nl (by simpa using hl)
  simp only [Bool.or_eq_true, decide_eq_true_eq] at h
  have := List.all_eq_true.1 (h.resolve_left (by omega)) i (List.mem_range.2 hi)
  simp only [Bool.or_eq_true, hne, Bool.false_eq_true, false_or] at this
  exact waits_listed hc 9 nl i this (fun o' ho' => by obtain rfl := Option.some.inj (ho.symm.trans ho'); exact hall)
theorem wpAnyU_first (hnl : waitsU ops late = true) {i : Nat} (hil : late.contains i = false) {oi : Oper} {v : Value} (hi : ops[i]? = some oi) (hsel : ∀ (j : Nat) (o : Oper) cs b, ops[j]? = some o → o.op ≠ .select cs b)
    (hQ : ∀ c a w, Q (.panic c) (a.put oi.dst v) w → Q (.panic c) a w) :
    ∀ (fuel : Nat) (listed : Array Bool) (a : Act) (w : World), listed.size = ops.size → Closed ops listed →
      (∀ j oj, ops[j]? = some oj → j ≠ i → listed.getD j true = false → (∀ e ∈ oj.after, Region.binds .any e = true → e.on ≠ i) → oi.apart ops oj = true) →
      i ∈ Region.ready .any ops listed → YieldsIf P ops S oi v a → S w →
      wpAnyU P ops Q S late fuel (listed.setIfInBounds i true) (a.put oi.dst v) w → wpAnyU P ops Q S late (fuel + 1) listed a w := by
  intro fuel
  induction fuel with
  | zero =>
    intro listed a w _ _ _ hr hy hS H
    refine ⟨fun h => (by rw [h] at hr; cases hr), fun j hj => ?_⟩
    by_cases hji : j = i
    · subst hji; exact hy.wpOp hi hS ⟨fun _ => hS, H⟩
    · have := ready_mono hj hji
      rw [H.1] at this
      cases this
  | succ fuel ih =>
    intro listed a w hsz hcl hfree hr hy hS H
    refine ⟨fun h => (by rw [h] at hr; cases hr), fun j hj => ?_⟩
    by_cases hji : j = i
    · subst hji; exact hy.wpOp hi hS ⟨fun _ => hS, H⟩
    · have h1 := H.2 j (ready_mono hj hji)
      obtain ⟨hjun, oj, hoj, hall⟩ := mem_ready.1 hj
      have hilt : i < ops.size := (Array.getElem?_eq_some_iff.1 hi).1
      have hiun : listed.getD i false = false := by
        have h0 := (mem_ready.1 hr).1
        simp [hsz, hilt] at h0 ⊢
        exact h0
      have hjn : late.contains j = false := by
        cases e : late.contains j with
        | false => rfl
        | true =>
          have := waitsU_spec hnl e hcl hj hilt hil
          rw [hiun] at this
          cases this
      have hnot : ∀ e ∈ oj.after, Region.binds .any e = true → e.on ≠ i := fun e he hb heq => by
        have h1 := hall e he hb
        rw [heq, hiun] at h1
        cases h1
      have h2 := wpOp_putIf hoj (hfree j oj hoj hji hjun hnot) (fun cs b => hsel i oi cs b hi) (fun cs b => hsel j oj cs b hoj) hQ hy h1
      have hfree' : ∀ k ok, ops[k]? = some ok → k ≠ i → (listed.setIfInBounds j true).getD k true = false →
          (∀ e ∈ ok.after, Region.binds .any e = true → e.on ≠ i) → oi.apart ops ok = true := fun k ok hk hki hun hno => by
        refine hfree k ok hk hki ?_ hno
        by_cases hjk : j = k
        · subst hjk; exact hjun
        · rw [getD_set_ne true hjk] at hun; exact hun
      refine wpOp_mono (fun a' w' h3 => ⟨fun _ => h3.2.1 hjn, ih (listed.setIfInBounds j true) a' w' (by simpa using hsz) (hcl.set hj) hfree' (ready_mono hr (Ne.symm hji)) h3.1 (h3.2.1 hjn) ?_⟩) h2
      rw [Array.setIfInBounds_comm _ _ hji]
      exact h3.2.2

/-- In the order 'l': what is not among 'es' yields; what is among them is carried out. -/
def wpLexU (P : Program) (ops : Array Oper) (Q : Exit → Act → World → Prop) (S : World → Prop) (late : List Nat) (es : List Nat) : List Nat → Act → World → Prop
  | [], a, w => Q .normal a w
  | i :: r, a, w =>
    if es.contains i then wpOp P ops Q i (fun a' w' => (late.contains i = false → S w') ∧ wpLexU P ops Q S late es r a' w') a w
    else ∃ o v, ops[i]? = some o ∧ YieldsIf P ops S o v a ∧ (∀ c a w, Q (.panic c) (a.put o.dst v) w → Q (.panic c) a w) ∧ wpLexU P ops Q S late es r (a.put o.dst v) w
def lexChkU (ops : Array Oper) (late : List Nat) (es : List Nat) : List Nat → Array Bool → Bool
  | [], listed => (Region.ready .any ops listed).isEmpty
  | i :: r, listed =>
    (if es.contains i then Region.ready .any ops listed == [i] && (!late.contains i || r.all late.contains) else Region.free .any ops listed i && (Region.ready .any ops listed).contains i && !late.contains i) && lexChkU ops late es r (listed.setIfInBounds i true)
theorem wpAnyU_of_lex (hnl : waitsU ops late = true) (hsel : ∀ (j : Nat) (o : Oper) cs b, ops[j]? = some o → o.op ≠ .select cs b) {es : List Nat} : ∀ (l : List Nat) (listed : Array Bool) (a : Act) (w : World),
    listed.size = ops.size → Closed ops listed → lexChkU ops late es l listed = true → (l.all late.contains = true ∨ S w) → wpLexU P ops Q S late es l a w → wpAnyU P ops Q S late l.length listed a w
  | [], listed, a, w, _, _, hc, _, h => by
    refine ⟨?_, h⟩
    simpa [lexChkU] using hc
  | i :: r, listed, a, w, hsz, hcl, hc, hS, h => by
    simp only [lexChkU, Bool.and_eq_true] at hc
    obtain ⟨hc1, hc2⟩ := hc
    simp only [wpLexU] at h
    by_cases he : es.contains i = true
    · rw [if_pos he] at hc1 h
      simp only [Bool.and_eq_true, beq_iff_eq, Bool.or_eq_true, Bool.not_eq_true'] at hc1
      refine ⟨fun h0 => (by rw [hc1.1] at h0; cases h0), fun j hj => ?_⟩
      rw [hc1.1] at hj
      have : j = i := by simpa using hj
      subst this
      refine wpOp_mono (fun a' w' h' => ⟨h'.1, wpAnyU_of_lex hnl hsel r _ a' w' (by simpa using hsz) (hcl.set (by rw [hc1.1]; simp)) hc2 ?_ h'.2⟩) h
      rcases hc1.2 with h2 | h2
      · exact .inr (h'.1 h2)
      · exact .inl h2
    · rw [if_neg he] at hc1 h
      simp only [Bool.and_eq_true, Bool.not_eq_true'] at hc1
      obtain ⟨o, v, ho, hy, hQ, hr⟩ := h
      have hSw : S w := hS.resolve_left (by
        intro hall
        have := List.all_eq_true.1 hall i (by simp)
        rw [hc1.2] at this
        cases this)
      exact wpAnyU_first hnl hc1.2 ho hsel hQ r.length listed a w hsz hcl (Region.free_spec ho hc1.1.1) (by simpa using hc1.1.2) hy hSw (wpAnyU_of_lex hnl hsel r _ _ w (by simpa using hsz) (hcl.set (by simpa using hc1.1.2)) hc2 (.inr hSw) hr)
def lexOkU (ops : Array Oper) (late : List Nat) (es l : List Nat) : Bool := waitsU ops late && Region.noSelect ops && l.length == ops.size && lexChkU ops late es l (Array.replicate ops.size false)
theorem wp_region_lexU {id : Nat} {a : Act} {w : World} (S : World → Prop) (late : List Nat) (es l : List Nat) (hm : P.follows .mixedOrders = true) (hc : lexOkU ops late es l = true) (hS : S w.drew)
    (h : wpLexU P ops Q S late es l a w.drew) : (Code.region id ops true).wp P Q a w := by
  simp only [lexOkU, Bool.and_eq_true, beq_iff_eq] at hc
  have := wpAnyU_of_lex hc.1.1.1 (Region.noSelect_spec hc.1.1.2) l (Array.replicate ops.size false) a w.drew (by simp) (fun k _ _ hl => by exfalso; rcases Nat.lt_or_ge k ops.size with h' | h' <;> simp [h'] at hl) hc.2 (.inr hS) h
  rw [hc.1.2] at this
  exact wp_region_any hm (wpAny_of_lexU _ _ _ _ this)
variable {es : List Nat} {r : List Nat} {a : Act} {w : World} {o : Oper} {i : Nat} {tl : List Oper}
theorem lexU_nil (h : Q .normal a w) : wpLexU P ops Q S late es [] a w := h
theorem lexU_free {v : Value} (he : es.contains i = false) (ho : ops.toList.drop i = o :: tl) (hg : o.guard = none) (hv : ∀ W, S W → (execOp a.eval o).run P W = .ok (.value v) W) (hQ : ∀ c a w, Q (.panic c) (a.put o.dst v) w → Q (.panic c) a w)
    (h : wpLexU P ops Q S late es r (a.put o.dst v) w) : wpLexU P ops Q S late es (i :: r) a w := by
  have ho := drop_get ho
  simp only [wpLexU, he, Bool.false_eq_true, if_false]
  exact ⟨o, v, ho, .inl ⟨by simp [Region.wanted, hg], hv⟩, hQ, h⟩
theorem lexU_freeG {v : Value} (he : es.contains i = false) (ho : ops.toList.drop i = o :: tl) (hg : Region.wanted o (yielded ops a.tmps) = true) (hv : ∀ W, S W → (execOp a.eval o).run P W = .ok (.value v) W) (hQ : ∀ c a w, Q (.panic c) (a.put o.dst v) w → Q (.panic c) a w)
    (h : wpLexU P ops Q S late es r (a.put o.dst v) w) : wpLexU P ops Q S late es (i :: r) a w := by
  have ho := drop_get ho
  simp only [wpLexU, he, Bool.false_eq_true, if_false]
  exact ⟨o, v, ho, .inl ⟨hg, hv⟩, hQ, h⟩
theorem lexU_skip (he : es.contains i = false) (ho : ops.toList.drop i = o :: tl) (hg : Region.wanted o (yielded ops a.tmps) = false) (hQ : ∀ c a w, Q (.panic c) (a.put o.dst undef) w → Q (.panic c) a w)
    (h : wpLexU P ops Q S late es r (a.put o.dst undef) w) : wpLexU P ops Q S late es (i :: r) a w := by
  have ho := drop_get ho
  simp only [wpLexU, he, Bool.false_eq_true, if_false]
  exact ⟨o, undef, ho, .inr ⟨hg, rfl⟩, hQ, h⟩
theorem lexU_skipE (he : es.contains i = true) (ho : ops.toList.drop i = o :: tl) (hg : Region.wanted o (yielded ops a.tmps) = false) (hS : S w)
    (h : wpLexU P ops Q S late es r (a.put o.dst undef) w) : wpLexU P ops Q S late es (i :: r) a w := by
  have ho := drop_get ho
  simp only [wpLexU, he, if_true, wpOp, ho, hg, Bool.false_eq_true, if_false]
  exact ⟨fun _ => hS, h⟩
theorem lexU_op (he : es.contains i = true) (ho : ops.toList.drop i = o :: tl) (hg : o.guard = none)
    (h : ∀ K : Act → World → Prop, (∀ a w, (late.contains i = false → S w) → wpLexU P ops Q S late es r a w → K a w) → o.wp P a w K Q) : wpLexU P ops Q S late es (i :: r) a w := by
  have ho := drop_get ho
  simp only [wpLexU, he, if_true, wpOp, ho]
  rw [if_pos (by simp [Region.wanted, hg])]
  exact .inl (h _ fun _ _ h1 h2 => ⟨h1, h2⟩)
theorem lexU_opG (he : es.contains i = true) (ho : ops.toList.drop i = o :: tl) (hg : Region.wanted o (yielded ops a.tmps) = true)
    (h : ∀ K : Act → World → Prop, (∀ a w, (late.contains i = false → S w) → wpLexU P ops Q S late es r a w → K a w) → o.wp P a w K Q) : wpLexU P ops Q S late es (i :: r) a w := by
  have ho := drop_get ho
  simp only [wpLexU, he, if_true, wpOp, ho]
  rw [if_pos hg]
  exact .inl (h _ fun _ _ h1 h2 => ⟨h1, h2⟩)
end
end Go.Proofs.YtnbckfkdmkbopaaGreatDoor
