/-
  What the document's Made does: the indexes of a table, the least name above the last one first. No condition beyond each lemma's own.
-/
import Derived.Test.YtpiijcjbphpffaaCRCat
import Derived.Test.YtpiijcjbphpffaaCRPick
import Derived.Test.YtpiijcjbphpffaaCIdx
set_option autoImplicit false
namespace Go.Proofs.Ytpiijcjbphpffaa
open Go Go.RowKit
attribute [local go_sem] field_tab0 field_tab1

theorem Own.len_le {T s : Nat} {w : World} {lo : Nat} {v : Value} {n : Nat} {cells : List Value} (h : Own T s w lo v n cells) : n ≤ maxLen := by
  rcases h.row.2 with ⟨rfl, hn⟩ | ⟨g, cap, cur, rfl, hb, hg, r1, r2, r3, r4⟩
  · omega
  · omega
def slLen : Value → Nat
  | .slice _ n _ => n
  | _ => 0
theorem bI_none : bI none = -1 := rfl
theorem bI_some (i : Nat) : bI (some i) = (i : Int) := rfl
theorem made_sorts {C : Cat} (h : C.ok) (t : ByteArray) : Sorts Ix.name (fun x => x.tab == t) C.I (C.made t) := by
  refine ⟨byName_perm _, byName_rises _, ?_, fun x hx => ?_⟩
  · have := ((byName_perm (C.I.filter fun x => x.tab == t)).map (·.name)).nodup_iff.2 ((List.filter_sublist.map _).nodup h.inn)
    exact this
  · have h1 := (byName_perm (C.I.filter fun x => x.tab == t)).mem_iff.1 hx
    exact (nameB_size (h.im x (List.mem_filter.1 h1).1).1).1
theorem gtr_eq (a b : ByteArray) : (!Op.bytesLess a.toList b.toList && !a.toList == b.toList) = nLt b a := by
  have hg := nLt_less a b
  cases h1 : nLt a b with
  | true => rw [← hg, h1, nLt_asymm h1]; rfl
  | false =>
    rw [← hg, h1, ← beq_list]
    cases h2 : nLt b a with
    | false =>
      obtain rfl := nLt_tri h1 h2
      rw [beq_self]; rfl
    | true =>
      rw [beq_ne (fun e => by subst e; rw [nLt_irrefl] at h2; cases h2)]; rfl
attribute [local go_sem] gtr_eq
set_option maxRecDepth 100000 in
set_option maxHeartbeats 4000000 in
theorem rmade_any (lo r : Nat) (K : Nat → Prop) (vt vi : Value) (C : Cat) (t : ByteArray) (w : World) (h : RAt w lo r K vt vi C) :
    Calls Try.prog 47 #[.pointer (some ⟨r, 0, none⟩), .string t] w fun e w' => ∃ v, e = .returned v ∧ IxsAt w' (fun k => w.heap.size ≤ k) v (C.made t) ∧ Chg (fun _ => False) w w' := by
  obtain ⟨⟨ao, cap, rfl⟩, bo, cap2, rfl⟩ := h.form
  have HH := Lib.hid h
  have HS := Lib.hid (made_sorts h.ok t)
  have hml := h.ok.made_len t
  have hil : C.I.length ≤ 9223372036854775807 := h.I.len_le
  generalize hS : C.made t = S at *
  have HE := Lib.hid hS
  clear h hS
  go_enter Try.func47, Try.ntmps47
  go_wp2
  go_loopw [5, 6] (fun s last wr => ∃ k : Nat, k ≤ S.length ∧ last = .string (lastOf Ix.name S k) ∧ Hid (Own 64 4 wr w.heap.size s k (ixCells (S.take k))) ∧ Hid (Chg (fun _ => False) w wr)) (fun s _ _ => S.length - slLen s)
  case atStart => exact ⟨0, Nat.zero_le _, rfl, Lib.hid (Own.nil _ _ _ _), Lib.hid (Chg.refl _ _)⟩
  case round =>
    obtain ⟨k, hk, rfl, HO, HX⟩ := hrel
    obtain ⟨so, scap, rfl, hso⟩ := HO.out.form
    clear hso
    obtain ⟨w3, hw3⟩ : ∃ w3, w3 = wr := ⟨_, rfl⟩
    subst hw3
    go_wp2
    go_loopw [7, 8] (fun b s wr => ∃ (n : Nat) (o : Option Nat), n ≤ C.I.length ∧ s = .int .i64 n ∧ b = .int .i64 (bI o) ∧ Hid (Best Ix.name (fun x => x.tab == t) C.I (lastOf Ix.name S k) n o) ∧ Hid (Chg (fun _ => False) w3 wr)) (fun _ s _ => C.I.length - (intOf s).toNat)
    case atStart => exact ⟨0, none, Nat.zero_le _, rfl, rfl, Lib.hid Best.zero, Lib.hid (Chg.refl _ _)⟩
    case round =>
      obtain ⟨n, o, hn, rfl, rfl, HB, HY⟩ := hrel
      have h4 := HH.out.quiet (HX.out.trans HY.out (fun _ h => h.elim))
      obtain ⟨c0, c1, c2⟩ := h4.cells
      by_cases hlt : n < C.I.length
      · obtain ⟨x, hx⟩ : ∃ x, C.I[n]? = some x := ⟨_, List.getElem?_eq_getElem hlt⟩
        obtain ⟨b, of, rfl, hbl, _, q0, q1, q2, q3⟩ := IxsAt.ix (w := wr) rfl h4.ixs hx
        have H4 := Lib.hid h4; have HG := Lib.hid hx
        clear h4 hx c0 q2 q3
        cases ht : x.tab == t with
        | false =>
          have HT := Lib.hid ht
          rw [beq_list] at ht
          go_wp2
          go_quiet (fail)
          go_wp2
          go_roundw
          case rel => exact ⟨n + 1, o, by omega, by go_num, rfl, Lib.hid (HB.out.skip HG.out (.inl HT.out)), Lib.hid (HY.out.drewN _)⟩
          case measure => simp [intOf]; omega
        | true =>
          have HT := Lib.hid ht
          rw [beq_list] at ht
          cases hl : nLt (lastOf Ix.name S k) x.name with
          | false =>
            have HL := Lib.hid hl
            go_wp2
            go_quiet (fail)
            go_wp2
            go_roundw
            case rel => exact ⟨n + 1, o, by omega, by go_num, rfl, Lib.hid (HB.out.skip HG.out (.inr HL.out)), Lib.hid (HY.out.drewN _)⟩
            case measure => simp [intOf]; omega
          | true =>
            have HL := Lib.hid hl
            cases o with
            | none =>
              rw [bI_none]
              go_wp2
              go_quiet (fail)
              go_wp2
              go_roundw
              case rel => exact ⟨n + 1, some n, by omega, by go_num, rfl, Lib.hid (Best.first HB.out HG.out HT.out HL.out), Lib.hid (HY.out.drewN _)⟩
              case measure => simp [intOf]; omega
            | some i =>
              rw [bI_some]
              obtain ⟨z, hz1, hz, _⟩ := HB.out
              obtain ⟨b2, o2, he2, _, _, p0, p1, p2, p3⟩ := IxsAt.ix (w := wr) rfl H4.out.ixs hz
              simp only [Option.some.injEq, Addr.mk.injEq] at he2
              obtain ⟨rfl, rfl, _⟩ := he2
              have HZ := Lib.hid hz
              have hzl : i < C.I.length := by omega
              have hzn : decide ((i : Int) < 0) = false := by simp
              clear hz p1 p2 p3
              cases hc : nLt x.name z.name with
              | false =>
                have HC := Lib.hid hc
                rw [nLt_less] at hc
                go_wp2
                go_quiet (fail)
                go_wp2
                go_roundw
                case rel => exact ⟨n + 1, some i, by omega, by go_num, rfl, Lib.hid (Best.keep HB.out HG.out HZ.out HC.out), Lib.hid (HY.out.drewN _)⟩
                case measure => simp [intOf]; omega
              | true =>
                have HC := Lib.hid hc
                rw [nLt_less] at hc
                go_wp2
                go_quiet (fail)
                go_wp2
                go_roundw
                case rel => exact ⟨n + 1, some n, by omega, by go_num, rfl, Lib.hid (Best.turn HB.out HG.out HZ.out HT.out HL.out HC.out), Lib.hid (HY.out.drewN _)⟩
                case measure => simp [intOf]; omega
      · have HN := Lib.hid (show n = C.I.length by omega)
        have HB2 : Hid (Best Ix.name (fun x => x.tab == t) C.I (lastOf Ix.name S k) C.I.length o) := Lib.hid (by have := HB.out; rw [HN.out] at this; exact this)
        clear HB
        cases o with
        | none =>
          rw [bI_none]
          have HK := Lib.hid (HS.out.none_at hk HB2.out)
          go_wp2
          go_ret
          refine ⟨_, rfl, ?_, HX.out.trans HY.out (fun _ h => h.elim)⟩
          have := (HO.out.quiet HY.out).read
          rw [HK.out, List.take_length] at this
          rw [HK.out]
          exact this
        | some i =>
          rw [bI_some]
          obtain ⟨z, hz1, hz, _⟩ := HB2.out
          obtain ⟨b, of, rfl, hbl, _, q0, q1, q2, q3⟩ := IxsAt.ix (w := wr) rfl h4.ixs hz
          have hz0 := Lib.hid hz
          have HZ := Lib.hid (HS.out.some_at hk HB2.out hz)
          have hkl : k < S.length := (List.getElem?_eq_some_iff.1 HZ.out).1
          have hwr : w.heap.size ≤ wr.heap.size := (HX.out.trans HY.out (fun _ h => h.elim)).size
          have H4 := Lib.hid h4
          clear hz h4
          go_wp2_with (at_builtin; refine own_app ix_ok rfl _ _ rfl w.heap.size _ k (ixCells (S.take k)) rfl (Own.quiet HO.out (HY.out.alloc _)) (fun _ => True) _ 1 z.cells rfl (row_one (hal_new' ?_) trivial) rfl ?_ ?_ ?_ ?_ ?_)
          · first | rfl | simp
          · intro u hu
            exact ixCells_one [_] u (by rw [ixCells_single]; exact hu)
          · unfold maxLen; omega
          · omega
          · first | omega | (simp; omega)
          · intro v' w5 r5 x5 hat
            obtain ⟨ao5, cap5, rfl, _⟩ := r5.form
            have y5 := ((Chg.refl (fun g => (Value.slice so k scap).ownBlock = some g) wr).alloc (.cells #[.string z.name, .string z.tab, .int .i64 z.col, .bool z.hash] 64)).trans x5 (fun k h => .inl h)
            have HX5 := Lib.hid ((((HX.out.trans HY.out (fun _ h => h.elim)).mono (G := fun k => w.heap.size ≤ k) (fun _ h => h.elim)).trans y5 (fun k h => .inl (HO.out.lo k h))).mono (G := fun _ => False) (fun k hk => .inr hk))
            have HO5 : Hid (Own 64 4 w5 w.heap.size (.slice ao5 (k + 1) cap5) (k + 1) (ixCells (S.take (k + 1)))) := Lib.hid (by
              rw [List.take_add_one, HZ.out, Option.toList_some, ixCells_app, ixCells_single]
              exact r5)
            have h5 := HH.out.quiet HX5.out
            obtain ⟨c0, c1, c2⟩ := h5.cells
            obtain ⟨b2, o2, he2, _, _, p0, p1, p2, p3⟩ := IxsAt.ix (w := w5) rfl h5.ixs hz0.out
            simp only [Option.some.injEq, Addr.mk.injEq] at he2
            obtain ⟨rfl, rfl, _⟩ := he2
            clear r5 x5 hat y5 h5 q0 q1 q2 q3 p1 p2 p3
            go_wp2
            go_roundw
            case rel => exact ⟨k + 1, by omega, by rw [lastOf_succ HZ.out], HO5, HX5⟩
            case measure => simp [slLen]; omega
end Go.Proofs.Ytpiijcjbphpffaa
