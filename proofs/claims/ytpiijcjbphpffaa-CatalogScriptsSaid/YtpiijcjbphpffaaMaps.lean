/-
  Lemmas on maps whose keys are numbers, texts or bools: look-up and store. No condition beyond each lemma's own.
-/
import Derived.Test.YtpiijcjbphpffaaBase
set_option autoImplicit false
namespace Go.Proofs.Ytpiijcjbphpffaa
open Go

/-! Maps whose keys are numbers, texts or bools: what an entry list holds at a key. -/
def kmatch : Value → Value → Bool
  | .int j a, .int k b => decide (j = k) && a == b
  | .string a, .string b => a == b
  | .bool a, .bool b => a == b
  | _, _ => false
def KeyTy : TypeDesc → Value → Prop
  | .int q, .int q' _ => q = q'
  | .string, .string _ => True
  | .bool, .bool _ => True
  | _, _ => False
def mfind (es : List MapEntry) (k : Value) : Option Value := (es.find? fun e => kmatch k e.key).map (·.val)
def mput (es : Array MapEntry) (clock : Nat) (k v : Value) : Array MapEntry :=
  match es.toList.findIdx? (fun e => kmatch k e.key) with
  | some i => es.modify i fun e => { e with key := k, val := v }
  | none => es.push { key := k, val := v, born := clock }
def mclock (es : Array MapEntry) (clock : Nat) (k : Value) : Nat :=
  match es.toList.findIdx? (fun e => kmatch k e.key) with
  | some _ => clock
  | none => clock + 1
def KeysTy (d : TypeDesc) (es : List MapEntry) : Prop := ∀ e ∈ es, KeyTy d e.key

theorem bytesBeq (a b : ByteArray) : (a == b) = true ↔ a = b := by
  obtain ⟨x⟩ := a
  obtain ⟨y⟩ := b
  constructor
  · intro h
    have e : x = y := by simpa using (show (x == y) = true from h)
    rw [e]
  · intro h
    cases h
    show (x == x) = true
    simp
theorem sameNow_eq {d : TypeDesc} {k x : Value} (hk : KeyTy d k) (hx : KeyTy d x) : Instr.sameNow d k x = some (kmatch k x) := by
  cases d <;> cases k <;> simp [KeyTy] at hk <;> cases x <;> simp [KeyTy] at hx <;> simp_all [Instr.sameNow, kmatch]
theorem findNow_eq {d : TypeDesc} {k : Value} (hk : KeyTy d k) : ∀ (es : List MapEntry) (i : Nat), KeysTy d es →
    Instr.findNow d k es i = some ((es.findIdx? fun e => kmatch k e.key).bind fun j => (es[j]?).map fun e => (i + j, e.val))
  | [], i, _ => by simp [Instr.findNow]
  | e :: es, i, h => by
    have he : KeyTy d e.key := h e (by simp)
    have ht : KeysTy d es := fun x hx => h x (by simp [hx])
    unfold Instr.findNow
    rw [sameNow_eq hk he, List.findIdx?_cons]
    cases hm : kmatch k e.key with
    | true => simp
    | false =>
      simp only [findNow_eq hk es (i + 1) ht]
      cases es.findIdx? (fun e => kmatch k e.key) with
      | none => simp
      | some j => simp [Nat.add_comm, Nat.add_left_comm]
theorem kmatch_self {d : TypeDesc} {k : Value} (hk : KeyTy d k) : kmatch k k = true := by
  cases d <;> cases k <;> simp_all [KeyTy, kmatch, bytesBeq]
theorem kmatch_eq {k x : Value} (h : kmatch k x = true) : k = x := by
  cases k <;> cases x <;> simp_all [kmatch, bytesBeq]
theorem kmatch_sameBits {k x : Value} (h : kmatch k x = true) : Instr.sameBits 10000 x k = true := by
  have := kmatch_eq h
  subst this
  cases k <;> simp [kmatch] at h <;> simp [Instr.sameBits, h]

section
variable {P : Program} (w : World)
theorem run_checkKey {d : TypeDesc} {t : TypeId} {k : Value} (hu : P.underlying t = some d) (hk : KeyTy d k) (b : Bool) : (Instr.checkKey b 10000 t k).run P w = .ok () w := by
  unfold Instr.checkKey
  rw [Sem.run_bind, run_underlying hu w]
  cases d <;> cases k <;> simp_all [KeyTy]
theorem run_findKey {d : TypeDesc} {t : TypeId} {k : Value} (hu : P.underlying t = some d) (hk : KeyTy d k) (es : List MapEntry) (hes : KeysTy d es) :
    (Instr.findKey t k es).run P w = .ok ((es.findIdx? fun e => kmatch k e.key).bind fun j => (es[j]?).map fun e => (j, e.val)) w := by
  unfold Instr.findKey
  rw [Sem.run_bind, run_underlying hu w]
  simp [findNow_eq hk es 0 hes]
theorem mfind_idx (es : List MapEntry) (k : Value) : mfind es k = ((es.findIdx? fun e => kmatch k e.key).bind fun j => (es[j]?).map (·.val)) := by
  unfold mfind
  induction es with
  | nil => rfl
  | cons e es ih =>
    rw [List.find?_cons, List.findIdx?_cons]
    cases hm : kmatch k e.key with
    | true => simp
    | false =>
      simp only [ih]
      cases es.findIdx? (fun e => kmatch k e.key) <;> simp
/-- A look-up: what is there, or the zero. -/
theorem run_lookup {t kt et : TypeId} {d : TypeDesc} {k z : Value} {r : Nat} {es : Array MapEntry} {c : Nat} (hm : P.underlying t = some (.map kt et)) (hu : P.underlying kt = some d) (hk : KeyTy d k)
    (hb : w.heap[r]? = some (.map es c)) (hes : KeysTy d es.toList) (hz : ∀ w, (zeroValue et).run P w = .ok z w) (ok : Bool) :
    (Instr.lookup t (.map (some r)) k ok).run P w = .ok (if ok then .tuple #[(mfind es.toList k).getD z, .bool (mfind es.toList k).isSome] else (mfind es.toList k).getD z) w := by
  unfold Instr.lookup
  simp only [Sem.run_bind, run_underlying hm, Result.andThen_ok]
  have hg : (getObj r).run P w = .ok (.map es c) w := by simp [getObj, Sem.run, hb]
  simp only [hg, Result.andThen_ok, Sem.run_bind, Sem.run_pure, run_checkKey w hu hk, run_findKey w hu hk es.toList hes, mfind_idx]
  cases hf : es.toList.findIdx? (fun e => kmatch k e.key) with
  | none => simp [hz]
  | some j =>
    obtain ⟨hlt, _⟩ := List.findIdx?_eq_some_iff_getElem.1 hf
    have hj : es.toList[j]? = some es.toList[j] := by simp
    simp only [Option.bind_some, hj, Option.map_some, Option.getD_some, Option.isSome_some]
    simp
theorem run_lookup_nil {t kt et : TypeId} {d : TypeDesc} {k z : Value} (hm : P.underlying t = some (.map kt et)) (hu : P.underlying kt = some d) (hk : KeyTy d k)
    (hz : ∀ w, (zeroValue et).run P w = .ok z w) (ok : Bool) :
    (Instr.lookup t (.map none) k ok).run P w = .ok (if ok then .tuple #[z, .bool false] else z) w := by
  unfold Instr.lookup
  simp only [Sem.run_bind, run_underlying hm, Result.andThen_ok]
  simp only [Result.andThen_ok, Sem.run_pure, run_checkKey w hu hk, run_findKey w hu hk _ (show KeysTy d (#[] : Array MapEntry).toList by intro e he; simp at he)]
  simp [hz]
theorem run_mapUpdate {t kt et : TypeId} {d : TypeDesc} {k v : Value} {r : Nat} {es : Array MapEntry} {c : Nat} (hm : P.underlying t = some (.map kt et)) (hu : P.underlying kt = some d) (hk : KeyTy d k)
    (hb : w.heap[r]? = some (.map es c)) (hes : KeysTy d es.toList) :
    (Instr.mapUpdate t (.map (some r)) k v).run P w = .ok () (setObj w r (.map (mput es c k v) (mclock es c k))) := by
  unfold Instr.mapUpdate
  simp only [Sem.run_bind, run_underlying hm, Result.andThen_ok]
  have hg : (getObj r).run P w = .ok (.map es c) w := by simp [getObj, Sem.run, hb]
  have hs : ∀ o, (Go.setObj r o).run P w = .ok () (setObj w r o) := fun o => by simp [Go.setObj, Sem.run, hb, setObj]
  simp only [hg, Result.andThen_ok, Sem.run_bind, run_checkKey w hu hk, run_findKey w hu hk es.toList hes]
  unfold mput mclock
  cases hf : es.toList.findIdx? (fun e => kmatch k e.key) with
  | none => simp [hs]
  | some j =>
    obtain ⟨hlt, hm1, _⟩ := List.findIdx?_eq_some_iff_getElem.1 hf
    have hj : es.toList[j]? = some es.toList[j] := by simp
    have hj' : es[j]? = some es.toList[j] := by simp
    simp only [Option.bind_some, hj, Option.map_some, hj', Option.getD_some]
    simp only [Instr.keyThatStays, kmatch_sameBits hm1, if_true, Sem.run_bind, Sem.run_pure, Result.andThen_ok, hs]
end

theorem mput_keys {d : TypeDesc} {es : Array MapEntry} {c : Nat} {k v : Value} (hk : KeyTy d k) (hes : KeysTy d es.toList) : KeysTy d (mput es c k v).toList := by
  unfold mput
  split
  · rename_i i hf
    intro e he
    simp only [Array.toList_modify] at he
    obtain ⟨j, hj, rfl⟩ := List.getElem_of_mem he
    rw [List.getElem_modify]
    split
    · exact hk
    · exact hes _ (List.getElem_mem _)
  · intro e he
    simp only [Array.toList_push, List.mem_append, List.mem_singleton] at he
    rcases he with he | rfl
    · exact hes e he
    · exact hk
theorem mfind_modify {k k' v : Value} (hk : kmatch k k = true) : ∀ (es : List MapEntry) (i : Nat), es.findIdx? (fun e => kmatch k e.key) = some i →
    mfind (es.modify i fun e => { e with key := k, val := v }) k' = if kmatch k' k then some v else mfind es k'
  | [], i, h => by simp at h
  | e :: es, i, h => by
    rw [List.findIdx?_cons] at h
    cases hm : kmatch k e.key with
    | true =>
      simp [hm] at h
      subst h
      have he : e.key = k := (kmatch_eq hm).symm
      simp only [List.modify_zero_cons, mfind, List.find?_cons, he]
      cases kmatch k' k <;> simp
    | false =>
      simp only [hm] at h
      cases hf : es.findIdx? (fun e => kmatch k e.key) with
      | none => simp [hf] at h
      | some j =>
        simp [hf] at h
        subst h
        have ih := mfind_modify (k' := k') (v := v) hk es j hf
        simp only [List.modify_succ_cons, mfind, List.find?_cons] at ih ⊢
        cases hm' : kmatch k' e.key with
        | false => exact ih
        | true =>
          have : kmatch k' k = false := by
            cases hkk : kmatch k' k with
            | false => rfl
            | true =>
              have e1 := kmatch_eq hkk
              subst e1
              rw [hm] at hm'; cases hm'
          simp [this]
theorem mfind_none {es : List MapEntry} {k : Value} : mfind es k = none ↔ es.findIdx? (fun e => kmatch k e.key) = none := by
  simp [mfind, List.find?_eq_none, List.findIdx?_eq_none_iff]
theorem mfind_mput {d : TypeDesc} {es : Array MapEntry} {c : Nat} {k v : Value} (hk : KeyTy d k) (k' : Value) :
    mfind (mput es c k v).toList k' = if kmatch k' k then some v else mfind es.toList k' := by
  unfold mput
  split
  · rename_i i hf
    rw [Array.toList_modify]
    exact mfind_modify (kmatch_self hk) es.toList i hf
  · rename_i hf
    rw [Array.toList_push]
    unfold mfind
    rw [List.find?_append]
    by_cases hkk : kmatch k' k = true
    · have := kmatch_eq hkk
      subst this
      have hn : (es.toList.find? fun e => kmatch k' e.key) = none := by
        have := mfind_none.2 hf
        simpa [mfind] using this
      simp [hn, hkk]
    · simp only [hkk, if_false, Bool.false_eq_true]
      cases hq : es.toList.find? fun e => kmatch k' e.key with
      | none => simp [hkk]
      | some e => simp
theorem kmatch_int (a b : Int) : kmatch (.int .i64 a) (.int .i64 b) = (a == b) := by simp [kmatch]
end Go.Proofs.Ytpiijcjbphpffaa
