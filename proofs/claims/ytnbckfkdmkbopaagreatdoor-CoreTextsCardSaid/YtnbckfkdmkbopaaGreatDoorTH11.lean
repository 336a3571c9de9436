/-
  A region that draws its order of evaluation, where two chains of operations may come in any order beside one another: a plan tells each way. No condition beyond each lemma's own.
  The parser's keyword: TRUE, FALSE, NULL, COUNT, SUM, MIN, MAX. No condition beyond each lemma's own.
  A region that draws its order of evaluation, walked by what holds when some of its operations are done: in any order. No condition beyond each lemma's own.
-/
import Derived.Test.YtnbckfkdmkbopaaGreatDoorTH07
import Derived.Test.YtnbckfkdmkbopaaGreatDoorTH10
import Derived.Test.YtnbckfkdmkbopaaGreatDoorTH02
set_option autoImplicit false
namespace Go.Proofs.YtnbckfkdmkbopaaGreatDoor
open Go Go.RowKit

/-- how a region is gone through: what only reads is taken where it stands; of what writes or calls one is ready, or two -/
inductive Plan where
  | done
  | free (i : Nat) (p : Plan)
  | one (i : Nat) (p : Plan)
  | two (i : Nat) (p : Plan) (j : Nat) (q : Plan)
def Plan.len : Plan → Nat
  | .done => 0
  | .free _ p => p.len + 1
  | .one _ p => p.len + 1
  | .two _ p _ _ => p.len + 1
section
variable {P : Program} {ops : Array Oper} {Q : Exit → Act → World → Prop} {S : World → Prop} {late : List Nat}
def wpPlan (P : Program) (ops : Array Oper) (Q : Exit → Act → World → Prop) (S : World → Prop) (late : List Nat) : Plan → Act → World → Prop
  | .done, a, w => Q .normal a w
  | .free i p, a, w => ∃ o v, ops[i]? = some o ∧ YieldsIf P ops S o v a ∧ (∀ c a w, Q (.panic c) (a.put o.dst v) w → Q (.panic c) a w) ∧ wpPlan P ops Q S late p (a.put o.dst v) w
  | .one i p, a, w => wpOp P ops Q i (fun a' w' => (late.contains i = false → S w') ∧ wpPlan P ops Q S late p a' w') a w
  | .two i p j q, a, w => wpOp P ops Q i (fun a' w' => (late.contains i = false → S w') ∧ wpPlan P ops Q S late p a' w') a w ∧ wpOp P ops Q j (fun a' w' => (late.contains j = false → S w') ∧ wpPlan P ops Q S late q a' w') a w
/-- nothing but late operations is left -/
def Plan.allLate (late : List Nat) : Plan → Bool
  | .done => true
  | .free _ _ => false
  | .one i p => late.contains i && p.allLate late
  | .two i p j q => late.contains i && p.allLate late && late.contains j && q.allLate late
def planChk (ops : Array Oper) (late : List Nat) : Plan → Array Bool → Bool
  | .done, listed => (Region.ready .any ops listed).isEmpty
  | .free i p, listed => Region.free .any ops listed i && (Region.ready .any ops listed).contains i && !late.contains i && planChk ops late p (listed.setIfInBounds i true)
  | .one i p, listed => Region.ready .any ops listed == [i] && (!late.contains i || p.allLate late) && planChk ops late p (listed.setIfInBounds i true)
  | .two i p j q, listed => Region.ready .any ops listed == [i, j] && (!late.contains i || p.allLate late) && (!late.contains j || q.allLate late) && p.len == q.len && planChk ops late p (listed.setIfInBounds i true) && planChk ops late q (listed.setIfInBounds j true)
theorem wpAnyU_of_plan (hnl : waitsU ops late = true) (hsel : ∀ (j : Nat) (o : Oper) cs b, ops[j]? = some o → o.op ≠ .select cs b) : ∀ (l : Plan) (listed : Array Bool) (a : Act) (w : World),
    listed.size = ops.size → Closed ops listed → planChk ops late l listed = true → (l.allLate late = true ∨ S w) → wpPlan P ops Q S late l a w → wpAnyU P ops Q S late l.len listed a w
  | .done, listed, a, w, _, _, hc, _, h => by
    refine ⟨?_, h⟩
    simpa [planChk] using hc
  | .free i p, listed, a, w, hsz, hcl, hc, hS, h => by
    simp only [planChk, Bool.and_eq_true, Bool.not_eq_true'] at hc
    obtain ⟨⟨⟨h1, h2⟩, h3⟩, h4⟩ := hc
    simp only [wpPlan] at h
    obtain ⟨o, v, ho, hy, hQ, hr⟩ := h
    have hSw : S w := hS.resolve_left (by simp [Plan.allLate])
    exact wpAnyU_first hnl h3 ho hsel hQ p.len listed a w hsz hcl (Region.free_spec ho h1) (by simpa using h2) hy hSw (wpAnyU_of_plan hnl hsel p _ _ w (by simpa using hsz) (hcl.set (by simpa using h2)) h4 (.inr hSw) hr)
  | .one i p, listed, a, w, hsz, hcl, hc, hS, h => by
    simp only [planChk, Bool.and_eq_true, beq_iff_eq, Bool.or_eq_true, Bool.not_eq_true'] at hc
    obtain ⟨⟨h1, h2⟩, h3⟩ := hc
    refine ⟨fun h0 => (by rw [h1] at h0; cases h0), fun j hj => ?_⟩
    rw [h1] at hj
    have : j = i := by simpa using hj
    subst this
    refine wpOp_mono (fun a' w' h' => ⟨h'.1, wpAnyU_of_plan hnl hsel p _ a' w' (by simpa using hsz) (hcl.set (by rw [h1]; simp)) h3 ?_ h'.2⟩) h
    rcases h2 with h2 | h2
    · exact .inr (h'.1 h2)
    · exact .inl h2
  | .two i p k q, listed, a, w, hsz, hcl, hc, hS, h => by
    simp only [planChk, Bool.and_eq_true, beq_iff_eq, Bool.or_eq_true, Bool.not_eq_true'] at hc
    obtain ⟨⟨⟨⟨⟨h1, h2⟩, h3⟩, h4⟩, h5⟩, h6⟩ := hc
    refine ⟨fun h0 => (by rw [h1] at h0; cases h0), fun j hj => ?_⟩
    rw [h1] at hj
    simp only [List.mem_cons, List.mem_nil_iff, or_false] at hj
    rcases hj with rfl | rfl
    · refine wpOp_mono (fun a' w' h' => ⟨h'.1, wpAnyU_of_plan hnl hsel p _ a' w' (by simpa using hsz) (hcl.set (by rw [h1]; simp)) h5 ?_ h'.2⟩) h.1
      rcases h2 with h2 | h2
      · exact .inr (h'.1 h2)
      · exact .inl h2
    · refine wpOp_mono (fun a' w' h' => ⟨h'.1, ?_⟩) h.2
      have := wpAnyU_of_plan hnl hsel q (listed.setIfInBounds j true) a' w' (by simpa using hsz) (hcl.set (by rw [h1]; simp)) h6 (by
        rcases h3 with h3 | h3
        · exact .inr (h'.1 h3)
        · exact .inl h3) h'.2
      rw [← h4] at this
      exact this
def planOk (ops : Array Oper) (late : List Nat) (l : Plan) : Bool := waitsU ops late && Region.noSelect ops && l.len == ops.size && planChk ops late l (Array.replicate ops.size false)
theorem wp_region_plan {id : Nat} {a : Act} {w : World} (S : World → Prop) (late : List Nat) (l : Plan) (hm : P.follows .mixedOrders = true) (hc : planOk ops late l = true) (hS : S w.drew)
    (h : wpPlan P ops Q S late l a w.drew) : (Code.region id ops true).wp P Q a w := by
  simp only [planOk, Bool.and_eq_true, beq_iff_eq] at hc
  have := wpAnyU_of_plan hc.1.1.1 (Region.noSelect_spec hc.1.1.2) l (Array.replicate ops.size false) a w.drew (by simp) (fun k _ _ hl => by exfalso; rcases Nat.lt_or_ge k ops.size with h' | h' <;> simp [h'] at hl) hc.2 (.inr hS) h
  rw [hc.1.2] at this
  exact wp_region_any hm (wpAny_of_lexU _ _ _ _ this)
variable {p q : Plan} {a : Act} {w : World} {o : Oper} {i j : Nat} {tl : List Oper}
theorem plan_done (h : Q .normal a w) : wpPlan P ops Q S late .done a w := h
theorem plan_free {v : Value} (ho : ops.toList.drop i = o :: tl) (hg : o.guard = none) (hv : ∀ W, S W → (execOp a.eval o).run P W = .ok (.value v) W) (hQ : ∀ c a w, Q (.panic c) (a.put o.dst v) w → Q (.panic c) a w)
    (h : wpPlan P ops Q S late p (a.put o.dst v) w) : wpPlan P ops Q S late (.free i p) a w :=
  ⟨o, v, drop_get ho, .inl ⟨by simp [Region.wanted, hg], hv⟩, hQ, h⟩
theorem plan_one (ho : ops.toList.drop i = o :: tl) (hg : o.guard = none)
    (h : ∀ K : Act → World → Prop, (∀ a w, (late.contains i = false → S w) → wpPlan P ops Q S late p a w → K a w) → o.wp P a w K Q) : wpPlan P ops Q S late (.one i p) a w := by
  have ho := drop_get ho
  simp only [wpPlan, wpOp, ho]
  rw [if_pos (by simp [Region.wanted, hg])]
  exact .inl (h _ fun _ _ h1 h2 => ⟨h1, h2⟩)
theorem plan_two (h1 : wpPlan P ops Q S late (.one i p) a w) (h2 : wpPlan P ops Q S late (.one j q) a w) : wpPlan P ops Q S late (.two i p j q) a w := ⟨h1, h2⟩
end
end Go.Proofs.YtnbckfkdmkbopaaGreatDoor

set_option autoImplicit false
namespace Go.Proofs.YtnbckfkdmkbopaaGreatDoor
open Go Go.RowKit

attribute [local go_sem ↓] field_tok1 in
set_option maxRecDepth 100000 in
set_option maxHeartbeats 4000000 in
theorem keyword_true (g : Ptree) (p tb : Nat) (tn : Int) (r : List Tok) (w : World) (h : PAt w p tb (⟨1, sTRUE, tn⟩ :: r)) : Calls Tryz.prog 185 #[.pointer (some ⟨p, 0, none⟩)] w (POut (keyP g sTRUE r) p tb w) := by
  have hpl := h.lt
  have htl := h.tl
  have X0 : Chg NoB w _ := (Chg.refl NoB w).alloc (ExF.obj ⟨0, 0, 0, [], [], [], 0, none, 0, 0⟩)
  have H := Lib.hid (h.quiet X0)
  have HT : Hid (takeT 1 (⟨1, sTRUE, tn⟩ :: r) = some (⟨1, sTRUE, tn⟩, r)) := Lib.hid (by simp [takeT])
  clear h X0
  go_enter Tryz.func185, Tryz.ntmps185
  go_wp2_with fail
  refine (take_yes H.out HT.out).mono ?_
  rintro e w1 ⟨rfl, HS⟩
  have X1 : Hid (Chg (OneP p) w w1) := Lib.hid (((Chg.refl (OneP p) w).alloc _).trans HS.out.2 (fun _ h => .inl h))
  have Z1 : Hid (w1.heap[w.heap.size]? = some (ExF.obj ⟨0, 0, 0, [], [], [], 0, none, 0, 0⟩)) := Lib.hid (HS.out.2.heap hal_new (by unfold OneP; omega))
  go_wp2_with fail
  refine (literal_any ⟨2, 1, []⟩ _).mono ?_
  rintro e w2 ⟨rfl, x2⟩
  have X2 : Hid (Chg (OneP p) w w2) := Lib.hid (X1.out.trans x2 (fun _ h => h.elim))
  have Z2 : Hid (w2.heap[w.heap.size]? = some (ExF.obj ⟨0, 0, 0, [], [], [], 0, none, 0, 0⟩)) := Lib.hid (x2.heap Z1.out (fun h => h))
  have P2 := Lib.hid (HS.out.1.quiet x2)
  have HF : Hid (keyP g sTRUE r = some (.val ⟨2, 1, []⟩, r)) := Lib.hid (by rfl)
  clear x2
  obtain ⟨z0, z1, z2, z3, z4, z5, z6, z7⟩ := ExCells.of Z2.out
  have fz : ∀ o, w2.frozen? ⟨w.heap.size, o, none⟩ = false := fun o => frozen_of_row w2 _ o _ _ Z2.out
  go_wp2
  exact pout_ret (E := ⟨1, 2, 1, [], [], [], 0, none, 0, 0⟩) rfl rfl HF.out X2.out Z2.out rfl P2.out hpl htl
attribute [local go_sem ↓] field_tok1 in
set_option maxRecDepth 100000 in
set_option maxHeartbeats 4000000 in
theorem keyword_false (g : Ptree) (p tb : Nat) (tn : Int) (r : List Tok) (w : World) (h : PAt w p tb (⟨1, sFALSE, tn⟩ :: r)) : Calls Tryz.prog 185 #[.pointer (some ⟨p, 0, none⟩)] w (POut (keyP g sFALSE r) p tb w) := by
  have hpl := h.lt
  have htl := h.tl
  have X0 : Chg NoB w _ := (Chg.refl NoB w).alloc (ExF.obj ⟨0, 0, 0, [], [], [], 0, none, 0, 0⟩)
  have H := Lib.hid (h.quiet X0)
  have HT : Hid (takeT 1 (⟨1, sFALSE, tn⟩ :: r) = some (⟨1, sFALSE, tn⟩, r)) := Lib.hid (by simp [takeT])
  clear h X0
  go_enter Tryz.func185, Tryz.ntmps185
  go_wp2_with fail
  refine (take_yes H.out HT.out).mono ?_
  rintro e w1 ⟨rfl, HS⟩
  have X1 : Hid (Chg (OneP p) w w1) := Lib.hid (((Chg.refl (OneP p) w).alloc _).trans HS.out.2 (fun _ h => .inl h))
  have Z1 : Hid (w1.heap[w.heap.size]? = some (ExF.obj ⟨0, 0, 0, [], [], [], 0, none, 0, 0⟩)) := Lib.hid (HS.out.2.heap hal_new (by unfold OneP; omega))
  go_wp2_with fail
  refine (literal_any ⟨2, 0, []⟩ _).mono ?_
  rintro e w2 ⟨rfl, x2⟩
  have X2 : Hid (Chg (OneP p) w w2) := Lib.hid (X1.out.trans x2 (fun _ h => h.elim))
  have Z2 : Hid (w2.heap[w.heap.size]? = some (ExF.obj ⟨0, 0, 0, [], [], [], 0, none, 0, 0⟩)) := Lib.hid (x2.heap Z1.out (fun h => h))
  have P2 := Lib.hid (HS.out.1.quiet x2)
  have HF : Hid (keyP g sFALSE r = some (.val ⟨2, 0, []⟩, r)) := Lib.hid (by rfl)
  clear x2
  obtain ⟨z0, z1, z2, z3, z4, z5, z6, z7⟩ := ExCells.of Z2.out
  have fz : ∀ o, w2.frozen? ⟨w.heap.size, o, none⟩ = false := fun o => frozen_of_row w2 _ o _ _ Z2.out
  go_wp2
  exact pout_ret (E := ⟨1, 2, 0, [], [], [], 0, none, 0, 0⟩) rfl rfl HF.out X2.out Z2.out rfl P2.out hpl htl
attribute [local go_sem ↓] field_tok1 in
set_option maxRecDepth 100000 in
set_option maxHeartbeats 4000000 in
theorem keyword_null (g : Ptree) (p tb : Nat) (tn : Int) (r : List Tok) (w : World) (h : PAt w p tb (⟨1, sNULL, tn⟩ :: r)) : Calls Tryz.prog 185 #[.pointer (some ⟨p, 0, none⟩)] w (POut (keyP g sNULL r) p tb w) := by
  have hpl := h.lt
  have htl := h.tl
  have X0 : Chg NoB w _ := (Chg.refl NoB w).alloc (ExF.obj ⟨0, 0, 0, [], [], [], 0, none, 0, 0⟩)
  have H := Lib.hid (h.quiet X0)
  have HT : Hid (takeT 1 (⟨1, sNULL, tn⟩ :: r) = some (⟨1, sNULL, tn⟩, r)) := Lib.hid (by simp [takeT])
  clear h X0
  go_enter Tryz.func185, Tryz.ntmps185
  go_wp2_with fail
  refine (take_yes H.out HT.out).mono ?_
  rintro e w1 ⟨rfl, HS⟩
  have X1 : Hid (Chg (OneP p) w w1) := Lib.hid (((Chg.refl (OneP p) w).alloc _).trans HS.out.2 (fun _ h => .inl h))
  have Z1 : Hid (w1.heap[w.heap.size]? = some (ExF.obj ⟨0, 0, 0, [], [], [], 0, none, 0, 0⟩)) := Lib.hid (HS.out.2.heap hal_new (by unfold OneP; omega))
  go_wp2_with fail
  refine (literal_any ⟨0, 0, []⟩ _).mono ?_
  rintro e w2 ⟨rfl, x2⟩
  have X2 : Hid (Chg (OneP p) w w2) := Lib.hid (X1.out.trans x2 (fun _ h => h.elim))
  have Z2 : Hid (w2.heap[w.heap.size]? = some (ExF.obj ⟨0, 0, 0, [], [], [], 0, none, 0, 0⟩)) := Lib.hid (x2.heap Z1.out (fun h => h))
  have P2 := Lib.hid (HS.out.1.quiet x2)
  have HF : Hid (keyP g sNULL r = some (.val ⟨0, 0, []⟩, r)) := Lib.hid (by rfl)
  clear x2
  obtain ⟨z0, z1, z2, z3, z4, z5, z6, z7⟩ := ExCells.of Z2.out
  have fz : ∀ o, w2.frozen? ⟨w.heap.size, o, none⟩ = false := fun o => frozen_of_row w2 _ o _ _ Z2.out
  go_wp2
  exact pout_ret (E := ⟨1, 0, 0, [], [], [], 0, none, 0, 0⟩) rfl rfl HF.out X2.out Z2.out rfl P2.out hpl htl
attribute [local go_sem ↓] field_tok1 in
set_option maxRecDepth 100000 in
set_option maxHeartbeats 4000000 in
theorem keyword_other (g : Ptree) (p tb : Nat) (tt : Str) (k1 : ¬ tt = sTRUE) (k2 : ¬ tt = sFALSE) (k3 : ¬ tt = sNULL) (k4 : ¬ tt = sCOUNT) (k5 : ¬ tt = sSUM) (k6 : ¬ tt = sMIN) (k7 : ¬ tt = sMAX) (tn : Int) (r : List Tok) (w : World) (h : PAt w p tb (⟨1, tt, tn⟩ :: r)) : Calls Tryz.prog 185 #[.pointer (some ⟨p, 0, none⟩)] w (POut (keyP g tt r) p tb w) := by
  have hpl := h.lt
  have htl := h.tl
  have X0 : Chg NoB w _ := (Chg.refl NoB w).alloc (ExF.obj ⟨0, 0, 0, [], [], [], 0, none, 0, 0⟩)
  have H := Lib.hid (h.quiet X0)
  have HT : Hid (takeT 1 (⟨1, tt, tn⟩ :: r) = some (⟨1, tt, tn⟩, r)) := Lib.hid (by simp [takeT])
  clear h X0
  have HK1 := Lib.hid k1
  have b1 : (tt == [84, 82, 85, 69]) = false := by simpa [sTRUE] using k1
  have HK2 := Lib.hid k2
  have b2 : (tt == [70, 65, 76, 83, 69]) = false := by simpa [sFALSE] using k2
  have HK3 := Lib.hid k3
  have b3 : (tt == [78, 85, 76, 76]) = false := by simpa [sNULL] using k3
  have HK4 := Lib.hid k4
  have b4 : (tt == [67, 79, 85, 78, 84]) = false := by simpa [sCOUNT] using k4
  have HK5 := Lib.hid k5
  have b5 : (tt == [83, 85, 77]) = false := by simpa [sSUM] using k5
  have HK6 := Lib.hid k6
  have b6 : (tt == [77, 73, 78]) = false := by simpa [sMIN] using k6
  have HK7 := Lib.hid k7
  have b7 : (tt == [77, 65, 88]) = false := by simpa [sMAX] using k7
  clear k1 k2 k3 k4 k5 k6 k7
  go_enter Tryz.func185, Tryz.ntmps185
  go_wp2_with fail
  refine (take_yes H.out HT.out).mono ?_
  rintro e w1 ⟨rfl, HS⟩
  have X1 : Hid (Chg (OneP p) w w1) := Lib.hid (((Chg.refl (OneP p) w).alloc _).trans HS.out.2 (fun _ h => .inl h))
  have Z1 : Hid (w1.heap[w.heap.size]? = some (ExF.obj ⟨0, 0, 0, [], [], [], 0, none, 0, 0⟩)) := Lib.hid (HS.out.2.heap hal_new (by unfold OneP; omega))
  go_wp2
  exact ⟨rfl, POut.no (by unfold keyP; rw [if_neg (by simp [HK1.out]), if_neg (by simp [HK2.out]), if_neg (by simp [HK3.out])]; unfold aggr; rw [if_neg (by simp [HK4.out]), if_neg (by simp [HK5.out]), if_neg (by simp [HK6.out]), if_neg (by simp [HK7.out])]) X1.out⟩
end Go.Proofs.YtnbckfkdmkbopaaGreatDoor

set_option autoImplicit false
namespace Go.Proofs.YtnbckfkdmkbopaaGreatDoor
open Go Go.RowKit

section
variable {P : Program} {ops : Array Oper} {Q : Exit → Act → World → Prop}
/-- with one more done -/
def did (L : Nat → Bool) (i : Nat) : Nat → Bool := fun k => if k = i then true else L k
theorem did_self (L : Nat → Bool) (i : Nat) : did L i i = true := by simp [did]
theorem did_ne (L : Nat → Bool) {i k : Nat} (h : k ≠ i) : did L i k = L k := by simp [did, h]
/-- what an operation waits for -/
def depsOf (ops : Array Oper) (i : Nat) : List Nat := match ops.toList.drop i with
  | o :: _ => (o.after.toList.filter (Region.binds .any)).map (·.on)
  | [] => []
def depsOk (ops : Array Oper) : Bool := (List.range ops.size).all fun i => (depsOf ops i).all fun k => decide (k < i)
theorem drop_of_get {i : Nat} {o : Oper} (h : ops[i]? = some o) : ∃ tl, ops.toList.drop i = o :: tl := by
  obtain ⟨hi, rfl⟩ := Array.getElem?_eq_some_iff.1 h
  refine ⟨ops.toList.drop (i + 1), ?_⟩
  rw [List.drop_eq_getElem_cons (by simpa using hi)]
  simp
def cntF (l : Array Bool) : Nat := l.toList.count false
theorem cnt_set (l : List Bool) : ∀ (i : Nat), l[i]? = some false → (l.set i true).count false + 1 = l.count false := by
  induction l with
  | nil => intro i h; simp at h
  | cons b l ih =>
    intro i h
    cases i with
    | zero =>
      simp at h
      subst h
      simp
    | succ i =>
      simp at h
      have := ih i h
      simp only [List.set_cons_succ, List.count_cons]
      omega
theorem cnt_zero (l : List Bool) (h : l.count false = 0) (i : Nat) (hi : i < l.length) : l[i]? = some true := by
  have := List.count_eq_zero.1 h
  rw [List.getElem?_eq_getElem hi]
  cases hb : l[i] with
  | true => rfl
  | false => exact absurd (hb ▸ List.getElem_mem hi) this
/-- what is done has what it waits for done -/
def ClosedL (ops : Array Oper) (L : Nat → Bool) : Prop := ∀ i, L i = true → ∀ k ∈ depsOf ops i, L k = true
theorem ClosedL.did {L : Nat → Bool} {i : Nat} (h : ClosedL ops L) (hi : ∀ k ∈ depsOf ops i, L k = true) : ClosedL ops (did L i) := by
  intro j hj k hk
  have hLk : L k = true := by
    by_cases hji : j = i
    · subst hji; exact hi k hk
    · rw [did_ne L hji] at hj; exact h j hj k hk
  by_cases hki : k = i
  · subst hki; exact did_self L k
  · rw [did_ne L hki]; exact hLk
theorem wpAny_inv (hd : depsOk ops = true) (I : (Nat → Bool) → Act → World → Prop) (hend : ∀ L a w, (∀ i, i < ops.size → L i = true) → I L a w → Q .normal a w)
    (hstep : ∀ L i a w, i < ops.size → L i = false → (∀ k ∈ depsOf ops i, L k = true) → ClosedL ops L → I L a w → wpOp P ops Q i (I (did L i)) a w) :
    ∀ (fuel : Nat) (listed : Array Bool) (L : Nat → Bool) (a : Act) (w : World), listed.size = ops.size → (∀ i, i < ops.size → L i = listed.getD i false) → cntF listed ≤ fuel → ClosedL ops L → I L a w → wpAny P .any ops Q fuel listed a w := by
  have hready : ∀ (listed : Array Bool) (L : Nat → Bool), listed.size = ops.size → (∀ i, i < ops.size → L i = listed.getD i false) → Region.ready .any ops listed = [] → ∀ i, i < ops.size → L i = true := by
    intro listed L hsz hL hr i
    induction i using Nat.strongRecOn with
    | ind i ih =>
      intro hi
      cases hb : L i with
      | true => rfl
      | false =>
        exfalso
        have hmem : i ∈ Region.ready .any ops listed := by
          rw [mem_ready]
          refine ⟨?_, ops[i], by simp [hi], fun e he hbd => ?_⟩
          · have := hL i hi
            rw [hb] at this
            simp [hsz, hi] at this ⊢
            exact this
          · have hdi := List.all_eq_true.1 (List.all_eq_true.1 hd i (List.mem_range.2 hi)) e.on (by
              obtain ⟨tl, ht⟩ := drop_of_get (ops := ops) (i := i) (o := ops[i]) (by simp [hi])
              unfold depsOf
              rw [ht]
              exact List.mem_map.2 ⟨e, List.mem_filter.2 ⟨by simpa using he, hbd⟩, rfl⟩)
            simp only [decide_eq_true_eq] at hdi
            have := ih e.on hdi (by omega)
            rw [← hL e.on (by omega)]
            exact this
        rw [hr] at hmem
        cases hmem
  intro fuel
  induction fuel with
  | zero =>
    intro listed L a w hsz hL hc _ hI
    have hall : ∀ i, i < ops.size → listed.getD i false = true := fun i hi => by
      have := cnt_zero listed.toList (by unfold cntF at hc; omega) i (by simpa [hsz] using hi)
      simp at this
      simp [this]
    refine ⟨?_, hend L a w (fun i hi => by rw [hL i hi]; exact hall i hi) hI⟩
    rw [List.eq_nil_iff_forall_not_mem]
    intro j hj
    obtain ⟨h1, o, ho, _⟩ := mem_ready.1 hj
    have hj' := (Array.getElem?_eq_some_iff.1 ho).1
    have := hall j hj'
    simp [hsz, hj'] at this h1
    rw [h1] at this
    cases this
  | succ fuel ih =>
    intro listed L a w hsz hL hc hcl hI
    refine ⟨fun hr => hend L a w (hready listed L hsz hL hr) hI, fun i hi => ?_⟩
    obtain ⟨h1, o, ho, hall⟩ := mem_ready.1 hi
    have hi' := (Array.getElem?_eq_some_iff.1 ho).1
    have hLi : L i = false := by
      rw [hL i hi']
      simp [hsz, hi'] at h1 ⊢
      exact h1
    have hdeps : ∀ k ∈ depsOf ops i, L k = true := by
      intro k hk
      obtain ⟨tl, ht⟩ := drop_of_get ho
      unfold depsOf at hk
      rw [ht] at hk
      obtain ⟨e, he, rfl⟩ := List.mem_map.1 hk
      obtain ⟨he1, he2⟩ := List.mem_filter.1 he
      have := hall e (by simpa using he1) he2
      have hlt : e.on < ops.size := by
        have hdi := List.all_eq_true.1 (List.all_eq_true.1 hd i (List.mem_range.2 hi')) e.on (by
          unfold depsOf
          rw [ht]
          exact hk)
        simp only [decide_eq_true_eq] at hdi
        omega
      rw [hL e.on hlt]
      exact this
    refine wpOp_mono (fun a' w' h' => ih (listed.setIfInBounds i true) (did L i) a' w' (by simpa using hsz) (fun k hk => ?_) ?_ (hcl.did hdeps) h') (hstep L i a w hi' hLi hdeps hcl hI)
    · by_cases hki : k = i
      · subst hki
        rw [did_self]
        simp [hsz, hi']
      · rw [did_ne L hki, hL k hk, getD_set_ne false (Ne.symm hki)]
    · have hg : listed.toList[i]? = some false := by
        have := hL i hi'
        rw [hLi] at this
        simp [hsz, hi'] at this ⊢
        exact this
      have := cnt_set listed.toList i hg
      unfold cntF at hc ⊢
      rw [Array.toList_setIfInBounds]
      omega
theorem wp_region_inv {id : Nat} {a : Act} {w : World} (hm : P.follows .mixedOrders = true) (hd : depsOk ops = true) (I : (Nat → Bool) → Act → World → Prop) (h0 : I (fun _ => false) a w.drew)
    (hend : ∀ L a w, (∀ i, i < ops.size → L i = true) → I L a w → Q .normal a w)
    (hstep : ∀ L i a w, i < ops.size → L i = false → (∀ k ∈ depsOf ops i, L k = true) → ClosedL ops L → I L a w → wpOp P ops Q i (I (did L i)) a w) : (Code.region id ops true).wp P Q a w :=
  wp_region_any hm (wpAny_inv hd I hend hstep ops.size (Array.replicate ops.size false) (fun _ => false) a w.drew (by simp) (fun i hi => by simp [hi]) (by unfold cntF; simp) (fun _ h => by cases h) h0)
theorem inv_op {K0 : Act → World → Prop} {a : Act} {w : World} {o : Oper} {i : Nat} {tl : List Oper} (ho : ops.toList.drop i = o :: tl) (hg : o.guard = none)
    (h : ∀ K : Act → World → Prop, (∀ a w, K0 a w → K a w) → o.wp P a w K Q) : wpOp P ops Q i K0 a w := by
  have ho := drop_get ho
  simp only [wpOp, ho]
  rw [if_pos (by simp [Region.wanted, hg])]
  exact .inl (h _ fun _ _ h1 => h1)
end
end Go.Proofs.YtnbckfkdmkbopaaGreatDoor
