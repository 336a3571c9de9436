/-
  Lemmas on maps whose keys are numbers, texts or bools: look-up and store. No condition beyond each lemma's own.
  A region that draws its order of evaluation, walked once in one order: the theorem and its steps. No condition beyond each lemma's own.
-/
import Derived.Test.YtnbckfkdmkbopaaGreatDoorTH01
import Derived.OrdersHeld
set_option autoImplicit false
namespace Go.Proofs.YtnbckfkdmkbopaaGreatDoor
open Go

/-! Maps whose keys are numbers, texts or bools: what an entry list holds at a key. -/
def kmatch : Value → Value → Bool
  | .int j a, .int k b => decide (j = k) && a == b
  | .string a, .string b => a == b
  | .bool a, .bool b => a == b
  | _, _ => false
def KeyTy : TypeDesc → Value → Prop
  | .int q, .int q' _ => q = q'
  | .string, .string _ => True
  | .bool, .bool _ => True
  | _, _ => False
def mfind (es : List MapEntry) (k : Value) : Option Value := (es.find? fun e => kmatch k e.key).map (·.val)
def mput (es : Array MapEntry) (clock : Nat) (k v : Value) : Array MapEntry :=
  match es.toList.findIdx? (fun e => kmatch k e.key) with
  | some i => es.modify i fun e => { e with key := k, val := v }
  | none => es.push { key := k, val := v, born := clock }
def mclock (es : Array MapEntry) (clock : Nat) (k : Value) : Nat :=
  match es.toList.findIdx? (fun e => kmatch k e.key) with
  | some _ => clock
  | none => clock + 1
def KeysTy (d : TypeDesc) (es : List MapEntry) : Prop := ∀ e ∈ es, KeyTy d e.key

theorem bytesBeq (a b : ByteArray) : (a == b) = true ↔ a = b := by
  obtain ⟨x⟩ := a
  obtain ⟨y⟩ := b
  constructor
  · intro h
    have e : x = y := by simpa using (show (x == y) = true from h)
    rw [e]
  · intro h
    cases h
    show (x == x) = true
    simp
theorem sameNow_eq {d : TypeDesc} {k x : Value} (hk : KeyTy d k) (hx : KeyTy d x) : Instr.sameNow d k x = some (kmatch k x) := by
  cases d <;> cases k <;> simp [KeyTy] at hk <;> cases x <;> simp [KeyTy] at hx <;> simp_all [Instr.sameNow, kmatch]
theorem findNow_eq {d : TypeDesc} {k : Value} (hk : KeyTy d k) : ∀ (es : List MapEntry) (i : Nat), KeysTy d es →
    Instr.findNow d k es i = some ((es.findIdx? fun e => kmatch k e.key).bind fun j => (es[j]?).map fun e => (i + j, e.val))
  | [], i, _ => by simp [Instr.findNow]
  | e :: es, i, h => by
    have he : KeyTy d e.key := h e (by simp)
    have ht : KeysTy d es := fun x hx => h x (by simp [hx])
    unfold Instr.findNow
    rw [sameNow_eq hk he, List.findIdx?_cons]
    cases hm : kmatch k e.key with
    | true => simp
    | false =>
      simp only [findNow_eq hk es (i + 1) ht]
      cases es.findIdx? (fun e => kmatch k e.key) with
      | none => simp
      | some j => simp [Nat.add_comm, Nat.add_left_comm]
theorem kmatch_self {d : TypeDesc} {k : Value} (hk : KeyTy d k) : kmatch k k = true := by
  cases d <;> cases k <;> simp_all [KeyTy, kmatch, bytesBeq]
theorem kmatch_eq {k x : Value} (h : kmatch k x = true) : k = x := by
  cases k <;> cases x <;> simp_all [kmatch, bytesBeq]
theorem kmatch_sameBits {k x : Value} (h : kmatch k x = true) : Instr.sameBits 10000 x k = true := by
  have := kmatch_eq h
  subst this
  cases k <;> simp [kmatch] at h <;> simp [Instr.sameBits, h]

section
variable {P : Program} (w : World)
theorem run_checkKey {d : TypeDesc} {t : TypeId} {k : Value} (hu : P.underlying t = some d) (hk : KeyTy d k) (b : Bool) : (Instr.checkKey b 10000 t k).run P w = .ok () w := by
  unfold Instr.checkKey
  rw [Sem.run_bind, run_underlying hu w]
  cases d <;> cases k <;> simp_all [KeyTy]
theorem run_findKey {d : TypeDesc} {t : TypeId} {k : Value} (hu : P.underlying t = some d) (hk : KeyTy d k) (es : List MapEntry) (hes : KeysTy d es) :
    (Instr.findKey t k es).run P w = .ok ((es.findIdx? fun e => kmatch k e.key).bind fun j => (es[j]?).map fun e => (j, e.val)) w := by
  unfold Instr.findKey
  rw [Sem.run_bind, run_underlying hu w]
  simp [findNow_eq hk es 0 hes]
theorem mfind_idx (es : List MapEntry) (k : Value) : mfind es k = ((es.findIdx? fun e => kmatch k e.key).bind fun j => (es[j]?).map (·.val)) := by
  unfold mfind
  induction es with
  | nil => rfl
  | cons e es ih =>
    rw [List.find?_cons, List.findIdx?_cons]
    cases hm : kmatch k e.key with
    | true => simp
    | false =>
      simp only [ih]
      cases es.findIdx? (fun e => kmatch k e.key) <;> simp
/-- A look-up: what is there, or the zero. -/
theorem run_lookup {t kt et : TypeId} {d : TypeDesc} {k z : Value} {r : Nat} {es : Array MapEntry} {c : Nat} (hm : P.underlying t = some (.map kt et)) (hu : P.underlying kt = some d) (hk : KeyTy d k)
    (hb : w.heap[r]? = some (.map es c)) (hes : KeysTy d es.toList) (hz : ∀ w, (zeroValue et).run P w = .ok z w) (ok : Bool) :
    (Instr.lookup t (.map (some r)) k ok).run P w = .ok (if ok then .tuple #[(mfind es.toList k).getD z, .bool (mfind es.toList k).isSome] else (mfind es.toList k).getD z) w := by
  unfold Instr.lookup
  simp only [Sem.run_bind, run_underlying hm, Result.andThen_ok]
  have hg : (getObj r).run P w = .ok (.map es c) w := by simp [getObj, Sem.run, hb]
  simp only [hg, Result.andThen_ok, Sem.run_bind, Sem.run_pure, run_checkKey w hu hk, run_findKey w hu hk es.toList hes, mfind_idx]
  cases hf : es.toList.findIdx? (fun e => kmatch k e.key) with
  | none => simp [hz]
  | some j =>
    obtain ⟨hlt, _⟩ := List.findIdx?_eq_some_iff_getElem.1 hf
    have hj : es.toList[j]? = some es.toList[j] := by simp
    simp only [Option.bind_some, hj, Option.map_some, Option.getD_some, Option.isSome_some]
    simp
theorem run_lookup_nil {t kt et : TypeId} {d : TypeDesc} {k z : Value} (hm : P.underlying t = some (.map kt et)) (hu : P.underlying kt = some d) (hk : KeyTy d k)
    (hz : ∀ w, (zeroValue et).run P w = .ok z w) (ok : Bool) :
    (Instr.lookup t (.map none) k ok).run P w = .ok (if ok then .tuple #[z, .bool false] else z) w := by
  unfold Instr.lookup
  simp only [Sem.run_bind, run_underlying hm, Result.andThen_ok]
  simp only [Result.andThen_ok, Sem.run_pure, run_checkKey w hu hk, run_findKey w hu hk _ (show KeysTy d (#[] : Array MapEntry).toList by intro e he; simp at he)]
  simp [hz]
theorem run_mapUpdate {t kt et : TypeId} {d : TypeDesc} {k v : Value} {r : Nat} {es : Array MapEntry} {c : Nat} (hm : P.underlying t = some (.map kt et)) (hu : P.underlying kt = some d) (hk : KeyTy d k)
    (hb : w.heap[r]? = some (.map es c)) (hes : KeysTy d es.toList) :
    (Instr.mapUpdate t (.map (some r)) k v).run P w = .ok () (setObj w r (.map (mput es c k v) (mclock es c k))) := by
  unfold Instr.mapUpdate
  simp only [Sem.run_bind, run_underlying hm, Result.andThen_ok]
  have hg : (getObj r).run P w = .ok (.map es c) w := by simp [getObj, Sem.run, hb]
  have hs : ∀ o, (Go.setObj r o).run P w = .ok () (setObj w r o) := fun o => by simp [Go.setObj, Sem.run, hb, setObj]
  simp only [hg, Result.andThen_ok, Sem.run_bind, run_checkKey w hu hk, run_findKey w hu hk es.toList hes]
  unfold mput mclock
  cases hf : es.toList.findIdx? (fun e => kmatch k e.key) with
  | none => simp [hs]
  | some j =>
    obtain ⟨hlt, hm1, _⟩ := List.findIdx?_eq_some_iff_getElem.1 hf
    have hj : es.toList[j]? = some es.toList[j] := by simp
    have hj' : es[j]? = some es.toList[j] := by simp
    simp only [Option.bind_some, hj, Option.map_some, hj', Option.getD_some]
    simp only [Instr.keyThatStays, kmatch_sameBits hm1, if_true, Sem.run_bind, Sem.run_pure, Result.andThen_ok, hs]
end

theorem mput_keys {d : TypeDesc} {es : Array MapEntry} {c : Nat} {k v : Value} (hk : KeyTy d k) (hes : KeysTy d es.toList) : KeysTy d (mput es c k v).toList := by
  unfold mput
  split
  · rename_i i hf
    intro e he
    simp only [Array.toList_modify] at he
    obtain ⟨j, hj, rfl⟩ := List.getElem_of_mem he
    rw [List.getElem_modify]
    split
    · exact hk
    · exact hes _ (List.getElem_mem _)
  · intro e he
    simp only [Array.toList_push, List.mem_append, List.mem_singleton] at he
    rcases he with he | rfl
    · exact hes e he
    · exact hk
theorem mfind_modify {k k' v : Value} (hk : kmatch k k = true) : ∀ (es : List MapEntry) (i : Nat), es.findIdx? (fun e => kmatch k e.key) = some i →
    mfind (es.modify i fun e => { e with key := k, val := v }) k' = if kmatch k' k then some v else mfind es k'
  | [], i, h => by simp at h
  | e :: es, i, h => by
    rw [List.findIdx?_cons] at h
    cases hm : kmatch k e.key with
    | true =>
      simp [hm] at h
      subst h
      have he : e.key = k := (kmatch_eq hm).symm
      simp only [List.modify_zero_cons, mfind, List.find?_cons, he]
      cases kmatch k' k <;> simp
    | false =>
      simp only [hm] at h
      cases hf : es.findIdx? (fun e => kmatch k e.key) with
      | none => simp [hf] at h
      | some j =>
        simp [hf] at h
        subst h
        have ih := mfind_modify (k' := k') (v := v) hk es j hf
        simp only [List.modify_succ_cons, mfind, List.find?_cons] at ih ⊢
        cases hm' : kmatch k' e.key with
        | false => exact ih
        | true =>
          have : kmatch k' k = false := by
            cases hkk : kmatch k' k with
            | false => rfl
            | true =>
              have e1 := kmatch_eq hkk
              subst e1
              rw [hm] at hm'; cases hm'
          simp [this]
theorem mfind_none {es : List MapEntry} {k : Value} : mfind es k = none ↔ es.findIdx? (fun e => kmatch k e.key) = none := by
  simp [mfind, List.find?_eq_none, List.findIdx?_eq_none_iff]
theorem mfind_mput {d : TypeDesc} {es : Array MapEntry} {c : Nat} {k v : Value} (hk : KeyTy d k) (k' : Value) :
    mfind (mput es c k v).toList k' = if kmatch k' k then some v else mfind es.toList k' := by
  unfold mput
  split
  · rename_i i hf
    rw [Array.toList_modify]
    exact mfind_modify (kmatch_self hk) es.toList i hf
  · rename_i hf
    rw [Array.toList_push]
    unfold mfind
    rw [List.find?_append]
    by_cases hkk : kmatch k' k = true
    · have := kmatch_eq hkk
      subst this
      have hn : (es.toList.find? fun e => kmatch k' e.key) = none := by
        have := mfind_none.2 hf
        simpa [mfind] using this
      simp [hn, hkk]
    · simp only [hkk, if_false, Bool.false_eq_true]
      cases hq : es.toList.find? fun e => kmatch k' e.key with
      | none => simp [hkk]
      | some e => simp
theorem kmatch_int (a b : Int) : kmatch (.int .i64 a) (.int .i64 b) = (a == b) := by simp [kmatch]
end Go.Proofs.YtnbckfkdmkbopaaGreatDoor

set_option autoImplicit false
namespace Go.Proofs.YtnbckfkdmkbopaaGreatDoor
open Go Go.RowKit

/-! A region that draws its order, walked once in ONE order: what only reads is taken where it stands in that order, if it yields its value in every world that meets S; what writes or calls stands in a forced chain. -/
section
variable {P : Program} {ops : Array Oper} {Q : Exit → Act → World → Prop} {S : World → Prop} {nl : Nat}
def wpAnyL (P : Program) (ops : Array Oper) (Q : Exit → Act → World → Prop) (S : World → Prop) (nl : Nat) : Nat → Array Bool → Act → World → Prop
  | 0, listed, a, w => Region.ready .any ops listed = [] ∧ Q .normal a w
  | fuel + 1, listed, a, w =>
    (Region.ready .any ops listed = [] → Q .normal a w) ∧
    ∀ i ∈ Region.ready .any ops listed, wpOp P ops Q i (fun a' w' => (i ≠ nl → S w') ∧ wpAnyL P ops Q S nl fuel (listed.setIfInBounds i true) a' w') a w
theorem wpAny_of_lex : ∀ (fuel : Nat) (listed : Array Bool) (a : Act) (w : World), wpAnyL P ops Q S nl fuel listed a w → wpAny P .any ops Q fuel listed a w
  | 0, _, _, _, h => h
  | fuel + 1, _, _, _, h => ⟨h.1, fun i hi => wpOp_mono (fun a' w' h' => wpAny_of_lex fuel _ a' w' h'.2) (h.2 i hi)⟩
/-- operation number j waits for number k, over at most so many steps -/
def waits (ops : Array Oper) : Nat → Nat → Nat → Bool
  | 0, _, _ => false
  | f + 1, j, k => match ops[j]? with
    | none => false
    | some o => o.after.any fun e => Region.binds .any e && (e.on == k || waits ops f e.on k)
def waitsAll (ops : Array Oper) (nl : Nat) : Bool := decide (ops.size ≤ nl) || (List.range ops.size).all fun k => k == nl || waits ops 9 nl k
def Closed (ops : Array Oper) (listed : Array Bool) : Prop := ∀ k ok, ops[k]? = some ok → listed.getD k false = true → ∀ e ∈ ok.after, Region.binds .any e = true → listed.getD e.on false = true
theorem Closed.set {listed : Array Bool} {j : Nat} (h : Closed ops listed) (hj : j ∈ Region.ready .any ops listed) : Closed ops (listed.setIfInBounds j true) := by
  intro k ok hk hl e he hb
  by_cases hjk : j = k
  · subst hjk
    obtain ⟨_, o, ho, hall⟩ := mem_ready.1 hj
    obtain rfl := Option.some.inj (ho.symm.trans hk)
    exact getD_set_true (hall e he hb)
  · rw [getD_set_ne false hjk] at hl
    exact getD_set_true (h k ok hk hl e he hb)
theorem waits_listed {listed : Array Bool} (hc : Closed ops listed) : ∀ (f j k : Nat), waits ops f j k = true → (∀ o, ops[j]? = some o → ∀ e ∈ o.after, Region.binds .any e = true → listed.getD e.on false = true) → listed.getD k false = true
  | 0, _, _, h, _ => by simp [waits] at h
  | f + 1, j, k, h, hj => by
    unfold waits at h
    cases ho : ops[j]? with
    | none => simp [ho] at h
    | some o =>
      rw [ho] at h
      obtain ⟨e, he, hb⟩ := Array.any_eq_true'.1 h
      simp only [Bool.and_eq_true, Bool.or_eq_true, beq_iff_eq] at hb
      have hl := hj o ho e he hb.1
      rcases hb.2 with h2 | h2
      · rw [← h2]; exact hl
      · exact waits_listed hc f e.on k h2 (fun o' ho' e' he' hb' => hc e.on o' ho' hl e' he' hb')
theorem waitsAll_spec (h : waitsAll ops nl = true) {listed : Array Bool} {i : Nat} (hc : Closed ops listed) (hn : nl ∈ Region.ready .any ops listed) (hi : i < ops.size) (hne : i ≠ nl) : listed.getD i false = true := by
  obtain ⟨_, o, ho, hall⟩ := mem_ready.1 hn
  have hlt : nl < ops.size := (Array.getElem?_eq_some_iff.1 ho).1
  unfold waitsAll at h
  simp only [Bool.or_eq_true, decide_eq_true_eq] at h
  have := List.all_eq_true.1 (h.resolve_left (by omega)) i (List.mem_range.2 hi)
  simp only [Bool.or_eq_true, beq_iff_eq, hne, false_or] at this
  exact waits_listed hc 9 nl i this (fun o' ho' => by obtain rfl := Option.some.inj (ho.symm.trans ho'); exact hall)
theorem wpAnyL_first (hnl : waitsAll ops nl = true) {i : Nat} {oi : Oper} {v : Value} (hi : ops[i]? = some oi) (hsel : ∀ (j : Nat) (o : Oper) cs b, ops[j]? = some o → o.op ≠ .select cs b)
    (hQ : ∀ c a w, Q (.panic c) (a.put oi.dst v) w → Q (.panic c) a w) :
    ∀ (fuel : Nat) (listed : Array Bool) (a : Act) (w : World), listed.size = ops.size → Closed ops listed →
      (∀ j oj, ops[j]? = some oj → j ≠ i → listed.getD j true = false → (∀ e ∈ oj.after, Region.binds .any e = true → e.on ≠ i) → oi.apart ops oj = true) →
      i ∈ Region.ready .any ops listed → YieldsIf P ops S oi v a → S w →
      wpAnyL P ops Q S nl fuel (listed.setIfInBounds i true) (a.put oi.dst v) w → wpAnyL P ops Q S nl (fuel + 1) listed a w := by
  intro fuel
  induction fuel with
  | zero =>
    intro listed a w _ _ _ hr hy hS H
    refine ⟨fun h => (by rw [h] at hr; cases hr), fun j hj => ?_⟩
    by_cases hji : j = i
    · subst hji; exact hy.wpOp hi hS ⟨fun _ => hS, H⟩
    · have := ready_mono hj hji
      rw [H.1] at this
      cases this
  | succ fuel ih =>
    intro listed a w hsz hcl hfree hr hy hS H
    refine ⟨fun h => (by rw [h] at hr; cases hr), fun j hj => ?_⟩
    by_cases hji : j = i
    · subst hji; exact hy.wpOp hi hS ⟨fun _ => hS, H⟩
    · have h1 := H.2 j (ready_mono hj hji)
      obtain ⟨hjun, oj, hoj, hall⟩ := mem_ready.1 hj
      have hilt : i < ops.size := (Array.getElem?_eq_some_iff.1 hi).1
      have hiun : listed.getD i false = false := by
        have h0 := (mem_ready.1 hr).1
        simp [hsz, hilt] at h0 ⊢
        exact h0
      have hjn : j ≠ nl := by
        intro e
        subst e
        have := waitsAll_spec hnl hcl hj hilt (Ne.symm hji)
        rw [hiun] at this
        cases this
      have hnot : ∀ e ∈ oj.after, Region.binds .any e = true → e.on ≠ i := fun e he hb heq => by
        have h1 := hall e he hb
        rw [heq, hiun] at h1
        cases h1
      have h2 := wpOp_putIf hoj (hfree j oj hoj hji hjun hnot) (fun cs b => hsel i oi cs b hi) (fun cs b => hsel j oj cs b hoj) hQ hy h1
      have hfree' : ∀ k ok, ops[k]? = some ok → k ≠ i → (listed.setIfInBounds j true).getD k true = false →
          (∀ e ∈ ok.after, Region.binds .any e = true → e.on ≠ i) → oi.apart ops ok = true := fun k ok hk hki hun hno => by
        refine hfree k ok hk hki ?_ hno
        by_cases hjk : j = k
        · subst hjk; exact hjun
        · rw [getD_set_ne true hjk] at hun; exact hun
      refine wpOp_mono (fun a' w' h3 => ⟨fun _ => h3.2.1 hjn, ih (listed.setIfInBounds j true) a' w' (by simpa using hsz) (hcl.set hj) hfree' (ready_mono hr (Ne.symm hji)) h3.1 (h3.2.1 hjn) ?_⟩) h2
      rw [Array.setIfInBounds_comm _ _ hji]
      exact h3.2.2

/-- In the order 'l': what is not among 'es' yields; what is among them is carried out. -/
def wpLex (P : Program) (ops : Array Oper) (Q : Exit → Act → World → Prop) (S : World → Prop) (nl : Nat) (es : List Nat) : List Nat → Act → World → Prop
  | [], a, w => Q .normal a w
  | i :: r, a, w =>
    if es.contains i then wpOp P ops Q i (fun a' w' => (i ≠ nl → S w') ∧ wpLex P ops Q S nl es r a' w') a w
    else ∃ o v, ops[i]? = some o ∧ YieldsIf P ops S o v a ∧ (∀ c a w, Q (.panic c) (a.put o.dst v) w → Q (.panic c) a w) ∧ wpLex P ops Q S nl es r (a.put o.dst v) w
def lexChk (ops : Array Oper) (nl : Nat) (es : List Nat) : List Nat → Array Bool → Bool
  | [], listed => (Region.ready .any ops listed).isEmpty
  | i :: r, listed =>
    (if es.contains i then Region.ready .any ops listed == [i] && (i != nl || r.isEmpty) else Region.free .any ops listed i && (Region.ready .any ops listed).contains i) && lexChk ops nl es r (listed.setIfInBounds i true)
theorem wpAnyL_of_lex (hnl : waitsAll ops nl = true) (hsel : ∀ (j : Nat) (o : Oper) cs b, ops[j]? = some o → o.op ≠ .select cs b) {es : List Nat} : ∀ (l : List Nat) (listed : Array Bool) (a : Act) (w : World),
    listed.size = ops.size → Closed ops listed → lexChk ops nl es l listed = true → (l = [] ∨ S w) → wpLex P ops Q S nl es l a w → wpAnyL P ops Q S nl l.length listed a w
  | [], listed, a, w, _, _, hc, _, h => by
    refine ⟨?_, h⟩
    simpa [lexChk] using hc
  | i :: r, listed, a, w, hsz, hcl, hc, hS, h => by
    have hSw : S w := hS.resolve_left (by simp)
    simp only [lexChk, Bool.and_eq_true] at hc
    obtain ⟨hc1, hc2⟩ := hc
    simp only [wpLex] at h
    by_cases he : es.contains i = true
    · rw [if_pos he] at hc1 h
      simp only [Bool.and_eq_true, beq_iff_eq, Bool.or_eq_true, bne_iff_ne, ne_eq, List.isEmpty_iff] at hc1
      refine ⟨fun h0 => (by rw [hc1.1] at h0; cases h0), fun j hj => ?_⟩
      rw [hc1.1] at hj
      have : j = i := by simpa using hj
      subst this
      refine wpOp_mono (fun a' w' h' => ⟨h'.1, wpAnyL_of_lex hnl hsel r _ a' w' (by simpa using hsz) (hcl.set (by rw [hc1.1]; simp)) hc2 ?_ h'.2⟩) h
      rcases hc1.2 with h2 | h2
      · exact .inr (h'.1 h2)
      · exact .inl h2
    · rw [if_neg he] at hc1 h
      simp only [Bool.and_eq_true] at hc1
      obtain ⟨o, v, ho, hy, hQ, hr⟩ := h
      exact wpAnyL_first hnl ho hsel hQ r.length listed a w hsz hcl (Region.free_spec ho hc1.1) (by simpa using hc1.2) hy hSw (wpAnyL_of_lex hnl hsel r _ _ w (by simpa using hsz) (hcl.set (by simpa using hc1.2)) hc2 (.inr hSw) hr)
def lexOk (ops : Array Oper) (nl : Nat) (es l : List Nat) : Bool := waitsAll ops nl && Region.noSelect ops && l.length == ops.size && lexChk ops nl es l (Array.replicate ops.size false)
theorem wp_region_lex {id : Nat} {a : Act} {w : World} (S : World → Prop) (nl : Nat) (es l : List Nat) (hm : P.follows .mixedOrders = true) (hc : lexOk ops nl es l = true) (hS : S w.drew)
    (h : wpLex P ops Q S nl es l a w.drew) : (Code.region id ops true).wp P Q a w := by
  simp only [lexOk, Bool.and_eq_true, beq_iff_eq] at hc
  have := wpAnyL_of_lex hc.1.1.1 (Region.noSelect_spec hc.1.1.2) l (Array.replicate ops.size false) a w.drew (by simp) (fun k _ _ hl => by exfalso; rcases Nat.lt_or_ge k ops.size with h' | h' <;> simp [h'] at hl) hc.2 (.inr hS) h
  rw [hc.1.2] at this
  exact wp_region_any hm (wpAny_of_lex _ _ _ _ this)
theorem drop_get {i : Nat} {o : Oper} {tl : List Oper} (h : ops.toList.drop i = o :: tl) : ops[i]? = some o := by
  have : (ops.toList.drop i)[0]? = some o := by rw [h]; rfl
  simpa using this
variable {es : List Nat} {r : List Nat} {a : Act} {w : World} {o : Oper} {i : Nat} {tl : List Oper}
theorem lex_nil (h : Q .normal a w) : wpLex P ops Q S nl es [] a w := h
theorem lex_free {v : Value} (he : es.contains i = false) (ho : ops.toList.drop i = o :: tl) (hg : o.guard = none) (hv : ∀ W, S W → (execOp a.eval o).run P W = .ok (.value v) W) (hQ : ∀ c a w, Q (.panic c) (a.put o.dst v) w → Q (.panic c) a w)
    (h : wpLex P ops Q S nl es r (a.put o.dst v) w) : wpLex P ops Q S nl es (i :: r) a w := by
  have ho := drop_get ho
  simp only [wpLex, he, Bool.false_eq_true, if_false]
  exact ⟨o, v, ho, .inl ⟨by simp [Region.wanted, hg], hv⟩, hQ, h⟩
theorem lex_freeG {v : Value} (he : es.contains i = false) (ho : ops.toList.drop i = o :: tl) (hg : Region.wanted o (yielded ops a.tmps) = true) (hv : ∀ W, S W → (execOp a.eval o).run P W = .ok (.value v) W) (hQ : ∀ c a w, Q (.panic c) (a.put o.dst v) w → Q (.panic c) a w)
    (h : wpLex P ops Q S nl es r (a.put o.dst v) w) : wpLex P ops Q S nl es (i :: r) a w := by
  have ho := drop_get ho
  simp only [wpLex, he, Bool.false_eq_true, if_false]
  exact ⟨o, v, ho, .inl ⟨hg, hv⟩, hQ, h⟩
theorem lex_skip (he : es.contains i = false) (ho : ops.toList.drop i = o :: tl) (hg : Region.wanted o (yielded ops a.tmps) = false) (hQ : ∀ c a w, Q (.panic c) (a.put o.dst undef) w → Q (.panic c) a w)
    (h : wpLex P ops Q S nl es r (a.put o.dst undef) w) : wpLex P ops Q S nl es (i :: r) a w := by
  have ho := drop_get ho
  simp only [wpLex, he, Bool.false_eq_true, if_false]
  exact ⟨o, undef, ho, .inr ⟨hg, rfl⟩, hQ, h⟩
theorem lex_skipE (he : es.contains i = true) (ho : ops.toList.drop i = o :: tl) (hg : Region.wanted o (yielded ops a.tmps) = false) (hS : S w)
    (h : wpLex P ops Q S nl es r (a.put o.dst undef) w) : wpLex P ops Q S nl es (i :: r) a w := by
  have ho := drop_get ho
  simp only [wpLex, he, if_true, wpOp, ho, hg, Bool.false_eq_true, if_false]
  exact ⟨fun _ => hS, h⟩
theorem lex_op (he : es.contains i = true) (ho : ops.toList.drop i = o :: tl) (hg : o.guard = none)
    (h : ∀ K : Act → World → Prop, (∀ a w, (i ≠ nl → S w) → wpLex P ops Q S nl es r a w → K a w) → o.wp P a w K Q) : wpLex P ops Q S nl es (i :: r) a w := by
  have ho := drop_get ho
  simp only [wpLex, he, if_true, wpOp, ho]
  rw [if_pos (by simp [Region.wanted, hg])]
  exact .inl (h _ fun _ _ h1 h2 => ⟨h1, h2⟩)
theorem lex_opG (he : es.contains i = true) (ho : ops.toList.drop i = o :: tl) (hg : Region.wanted o (yielded ops a.tmps) = true)
    (h : ∀ K : Act → World → Prop, (∀ a w, (i ≠ nl → S w) → wpLex P ops Q S nl es r a w → K a w) → o.wp P a w K Q) : wpLex P ops Q S nl es (i :: r) a w := by
  have ho := drop_get ho
  simp only [wpLex, he, if_true, wpOp, ho]
  rw [if_pos hg]
  exact .inl (h _ fun _ _ h1 h2 => ⟨h1, h2⟩)
end
end Go.Proofs.YtnbckfkdmkbopaaGreatDoor
