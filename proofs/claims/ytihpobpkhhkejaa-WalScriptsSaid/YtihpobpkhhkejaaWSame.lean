/-
  The laws' own same: are two lists of records the same? No condition beyond the lemma's own.
-/
import Derived.Test.YtihpobpkhhkejaaWCalls
set_option autoImplicit false
namespace Go.Proofs.Ytihpobpkhhkejaa
open Go Go.RowKit

theorem exec_conv {P : Program} {w : World} {e : Operand → Value} {o : Oper} {s d : TypeId} {x : Operand} {u v : Value} (ho : o.op = .convert s d x) (hx : e x = u) (hr : (convert s d u).run P w = .ok v w) : (execOp e o).run P w = .ok (.value v) w := by
  unfold execOp
  simp only [ho, hx, Sem.run_bind, hr, Result.andThen_ok, Sem.run_pure]
theorem strNums_list {a b : List Int} (ha : Bytes a) (hb : Bytes b) : ((strOfNums a).toList == (strOfNums b).toList) = decide (a = b) := by
  rw [← strOfNums_inj ha hb, ByteArray.toList_eq, ByteArray.toList_eq, Bool.eq_iff_iff, beq_iff_eq, bytesBeq]
  constructor
  · intro h
    cases hs : strOfNums a with
    | mk x =>
      cases ht : strOfNums b with
      | mk y =>
        rw [hs, ht] at h
        congr 1
        exact Array.toList_inj.1 h
  · intro h; rw [h]
set_option maxRecDepth 100000 in
theorem same_any (va vb : Value) (Za Zb : Nat → Prop) (ra rb : List (List Int)) (w : World) (ha : RecsR w Za va ra) (hb : RecsR w Zb vb rb) :
    Calls Try.prog 37 #[va, vb] w fun e w' => e = .returned (.bool (decide (ra = rb))) ∧ Chg (fun _ => False) w w' := by
  obtain ⟨hla, aa, ca, rfl, ha⟩ := ha
  obtain ⟨hlb, ab, cb, rfl, hb⟩ := hb
  unfold maxLen at hla hlb
  by_cases hlen : ra.length = rb.length
  · have HA := Lib.hid ha; have HB := Lib.hid hb; have HLE := Lib.hid hlen
    clear ha hb
    go_enter Try.func37, Try.ntmps37
    go_wp2
    go_loopw [5] (fun i wr => ∃ k : Nat, k ≤ ra.length ∧ i = .int .i64 k ∧ (∀ j, (h : j < k) → ra[j]? = rb[j]?) ∧ Chg (fun _ => False) w wr) (fun i _ => ra.length - (intOf i).toNat)
    case atStart => exact ⟨0, Nat.zero_le _, rfl, fun j h => by omega, Chg.refl _ _⟩
    case round =>
      obtain ⟨k, hk, rfl, heq, hx⟩ := hrel
      have HEQ := Lib.hid heq; have X := Lib.hid hx
      clear heq hx
      by_cases hkl : k < ra.length
      · obtain ⟨ba, oa, rfl, hoa, hca⟩ := HA.out (by omega)
        obtain ⟨bb, ob, rfl, hob, hcb⟩ := HB.out (by omega)
        obtain ⟨ua, hua, hra⟩ := hca k hkl
        obtain ⟨ub, hub, hrb⟩ := hcb k (by omega)
        have c1 : wr.cell? ⟨ba, oa + k, none⟩ = some ua := (cell_of_heap (X.out.keep _ hoa.1 (fun h => h))).trans hua
        have c2 : wr.cell? ⟨bb, ob + k, none⟩ = some ub := (cell_of_heap (X.out.keep _ hob.1 (fun h => h))).trans hub
        have r1 := hra.chg X.out (fun _ h => h.elim)
        have r2 := hrb.chg X.out (fun _ h => h.elim)
        have hq := strNums_list hra.1 hrb.1
        have HQ := Lib.hid hq
        have R1 := Lib.hid r1; have R2 := Lib.hid r2
        have hga : ra[k]? = some ra[k] := List.getElem?_eq_getElem hkl
        have hgb : rb[k]? = some (rb[k]'(by omega)) := List.getElem?_eq_getElem (by omega)
        have HGA := Lib.hid hga; have HGB := Lib.hid hgb
        clear hca hcb hua hub hra hrb hq hga hgb r1 r2 hoa hob
        generalize ra[k] = xa at *
        generalize rb[k] = xb at *
        go_wp2_with fail
        refine wp_region_lex (fun w' => w'.cell? ⟨ba, oa + k, none⟩ = some ua ∧ w'.cell? ⟨bb, ob + k, none⟩ = some ub ∧ BytR w' Za ua xa ∧ BytR w' Zb ub xb) 99 [] [0, 1, 2, 3, 4, 5, 6, 7, 8, 9, 10] (by kernel_rfl) (by kernel_rfl) ⟨c1, c2, R1.out, R2.out⟩ ?_
        clear c1 c2
        iterate 4
          refine' lex_free (v := _) rfl rfl rfl ?_ (fun _ _ _ h => h) ?_
          rotate_left
          · rintro W ⟨hW1, hW2, _, _⟩
            go_simp
            with_reducible rfl
          try simp only [Act.put, List.setIfInBounds_toArray, List.set_cons_zero, List.set_cons_succ]
        refine lex_free (v := .string (strOfNums xa)) rfl rfl rfl (fun W hW => exec_conv rfl rfl (hW.2.2.1.conv 9 Try.underlying9)) (fun _ _ _ h => h) ?_
        try simp only [Act.put, List.setIfInBounds_toArray, List.set_cons_zero, List.set_cons_succ]
        iterate 4
          refine' lex_free (v := _) rfl rfl rfl ?_ (fun _ _ _ h => h) ?_
          rotate_left
          · rintro W ⟨hW1, hW2, _, _⟩
            go_simp
            with_reducible rfl
          try simp only [Act.put, List.setIfInBounds_toArray, List.set_cons_zero, List.set_cons_succ]
        refine lex_free (v := .string (strOfNums xb)) rfl rfl rfl (fun W hW => exec_conv rfl rfl (hW.2.2.2.conv 9 Try.underlying9)) (fun _ _ _ h => h) ?_
        try simp only [Act.put, List.setIfInBounds_toArray, List.set_cons_zero, List.set_cons_succ]
        refine lex_free (v := .bool (!decide (xa = xb))) rfl rfl rfl (fun W hW => by go_simp; rw [HQ.out]) (fun _ _ _ h => h) ?_
        try simp only [Act.put, List.setIfInBounds_toArray, List.set_cons_zero, List.set_cons_succ]
        refine lex_nil ?_
        by_cases hxx : xa = xb
        · rw [decide_eq_true hxx]
          go_wp2
          go_roundw
          case rel =>
            refine ⟨k + 1, by omega, by go_num, fun j hj => ?_, X.out.drew⟩
            by_cases hjk : j < k
            · exact HEQ.out j hjk
            · have : j = k := by omega
              subst this
              rw [HGA.out, HGB.out, hxx]
          case measure => simp [intOf]; omega
        · rw [decide_eq_false hxx]
          have hd : decide (ra = rb) = false := decide_eq_false (fun e => hxx (by
            have h1 := HGA.out
            rw [e, HGB.out] at h1
            exact (Option.some.inj h1).symm))
          have HD := Lib.hid hd
          clear hd
          go_wp2
          go_ret
          rw [HD.out]
          exact ⟨rfl, X.out.drew⟩
      · have hd : decide (ra = rb) = true := decide_eq_true (List.ext_getElem? (fun j => by
          by_cases hj : j < k
          · exact HEQ.out j hj
          · rw [List.getElem?_eq_none (by omega), List.getElem?_eq_none (by have := HLE.out; omega)]))
        have HD := Lib.hid hd
        clear hd
        go_wp2
        go_ret
        rw [HD.out]
        exact ⟨rfl, X.out⟩
  · have hd : decide (ra = rb) = false := decide_eq_false (fun e => hlen (by rw [e]))
    have HD := Lib.hid hd
    clear hd ha hb
    go_enter Try.func37, Try.ntmps37
    go_wp2
    go_ret
    rw [HD.out]
    exact ⟨rfl, Chg.refl _ _⟩
end Go.Proofs.Ytihpobpkhhkejaa
