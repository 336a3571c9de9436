/-
  The walk of list, Committed and Active of the book of transactions. Condition: a book stands at the address.
-/
import Derived.Test.YtkneldeemlngkaaMList
import Derived.Test.YtkneldeemlngkaaMChain
set_option autoImplicit false
namespace Go.Proofs.Ytkneldeemlngkaa
open Go Go.RowKit
attribute [local go_sem] field_ent0 field_ent1 field_ent2

theorem list_nums {B : Bk} (ok : B.ok) {s : Int} (hs : s ≠ 0) : B.nums.filter (fun k => (B.get k).1 == s) = B.list s := by
  refine rise_eq (((upto_sorted B.next).filter _).filter _) (list_sorted B s) (fun x => ?_)
  rw [mem_list ok hs]
  unfold Bk.nums
  rw [List.mem_filter, List.mem_filter, mem_upto]
  simp only [beq_iff_eq]
  constructor
  · exact fun h => h.2
  · intro h
    have hd := get_dom ok (t := x) (by rw [h]; exact hs)
    refine ⟨⟨by omega, ?_⟩, h⟩
    unfold Bk.get at h
    cases hb : B.all x with
    | none => rw [hb] at h; exact absurd h.symm hs
    | some e => rfl
theorem take_snocI (l : List Int) (k : Nat) (h : k < l.length) : l.take (k + 1) = l.take k ++ [l[k]] := by
  rw [List.take_succ_eq_append_getElem h]
theorem list_nil (s : Int) (w : World) : Calls Try.prog 30 #[.pointer none, .int .i64 s] w fun e w' => e = .returned (.slice none 0 0) ∧ w = w' := by
  go_enter Try.func30, Try.ntmps30
  go_wp2
  go_ret
  exact ⟨rfl, rfl⟩
set_option maxRecDepth 100000 in
set_option maxHeartbeats 1000000 in
theorem list_any (r : Nat) (F : Nat → Prop) (B : Bk) (w : World) (s : Int) (hs : s ≠ 0) (h : BookAt w r F B) :
    Calls Try.prog 30 #[.pointer (some ⟨r, 0, none⟩), .int .i64 s] w fun e w' => ∃ v, e = .returned v ∧ Ints w' w.heap.size v (B.list s) ∧ Chg (fun _ => False) w w' := by
  obtain ⟨mb, es, c, h⟩ := h
  obtain ⟨c0, c1, c2, c3, c4, c5⟩ := h.cells
  have HH := Lib.hid h; have HS := Lib.hid hs
  have hnl : B.nums.length ≤ 16777217 := by
    have h1 := nums_len B
    have h3 := h.ok.n2; have h4 := h.ok.m1
    omega
  clear h hs
  go_enter Try.func30, Try.ntmps30
  go_wp2_with (go_at_call 33; refine (keys_calls _ _).mono ?_; rintro e w' ⟨rfl, rfl⟩)
  refine (sorted_calls HH.out.ok w HH.out.is HH.out.map).mono ?_
  rintro e w2 ⟨v, rfl, hv, x2⟩
  obtain ⟨ao, cap, rfl, hf⟩ := hv.form
  have V2 := Lib.hid hv
  have X2 := Lib.hid (((Chg.refl (fun _ => False) w).alloc (.cells #[.map (some mb)] 55)).trans x2 (fun _ h => h.elim))
  have FF := Lib.hid hf
  clear hv x2 hf c0 c1 c2 c3 c4 c5
  have z2 := X2.out.size
  go_wp2
  go_loopw [5, 7, 17] (fun s5 _ s17 wr => ∃ k : Nat, k ≤ B.nums.length ∧ s17 = .int .i64 k ∧ Ints wr w.heap.size s5 ((B.nums.take k).filter fun t => (B.get t).1 == s) ∧ Apart (.slice ao B.nums.length cap) s5 ∧ Ints wr (w.heap.size + 1) (.slice ao B.nums.length cap) B.nums ∧ Chg (fun _ => False) w wr) (fun _ _ s17 _ => B.nums.length - (intOf s17).toNat)
  case atStart => exact ⟨0, Nat.zero_le _, rfl, Ints.nil _ _, (apart_nil _).symm, V2.out, X2.out⟩
  case round =>
    clear V2
    obtain ⟨k, hk, rfl, hl, hap, hv, hx⟩ := hrel
    have HL := Lib.hid hl; have HAP := Lib.hid hap; have HV := Lib.hid hv; have HX := Lib.hid hx
    clear hl hap hv hx
    by_cases hlt : k < B.nums.length
    · obtain ⟨g, rfl, _, _⟩ := FF.out (by omega)
      have ht := HV.out.at_ k hlt
      have HT := Lib.hid (take_snocI B.nums k hlt)
      have hb := HH.out.chg HX.out (fun _ _ h => h)
      have c3 := hb.cells.2.2.2.1
      have c5 := hb.cells.2.2.2.2.2
      generalize B.nums[k] = t at *
      have hlk := hb.is.at_ t hb.map
      rw [show (B.all t).getD (0, 0, 0) = B.get t from rfl] at hlk
      have HG := Lib.hid (rfl : B.get t = B.get t)
      generalize hge : B.get t = et at *
      obtain ⟨e0, e1, e2⟩ := et
      simp only [entV] at hlk
      have HGE := Lib.hid hge
      clear hge HG hb
      by_cases he : e0 = s
      · subst he
        have C6 := Lib.hid ((Chg.refl (fun _ => False) wr).alloc (.cells #[.int .i64 t] 3))
        have N6 := Lib.hid (hal_new (w := wr) (o := .cells #[.int .i64 t] 3))
        have zr := HX.out.size
        have hll : ((B.nums.take k).filter fun t => (B.get t).1 == e0).length ≤ 16777217 := Nat.le_trans (List.length_filter_le _ _) (by rw [List.length_take]; omega)
        have HLL := Lib.hid hll
        clear hll
        go_wp2_with (at_builtin; refine ints_app rfl _ _ rfl w.heap.size u5 _ rfl (HL.out.quiet C6.out) wr.heap.size t rfl N6.out (Nat.lt_of_le_of_lt HLL.out (by omega)) (by simp; omega) ?_)
        intro v6 w6 hv6 c6 hn6
        have hr := app_rest (HL.out.quiet C6.out) c6 (fun g hg => by have := hn6 g hg; simpa using this) ((Ints.mk HV.out.row (fun g hg => Nat.le_of_succ_le (HV.out.lo g hg)) : Ints wr w.heap.size _ B.nums).quiet C6.out) HAP.out.symm
        have HV6 := Lib.hid hv6; have HA6 := Lib.hid hr.2.symm
        have HV7 := Lib.hid (Ints.mk hr.1.row HV.out.lo : Ints w6 (w.heap.size + 1) _ B.nums)
        have HX6 := Lib.hid (((HX.out.trans C6.out (fun _ h => h.elim)).trans (G := fun k => u5.ownBlock = some k) c6 (fun x hx => .inr (HL.out.lo x hx))))
        clear hv6 c6 hn6 hr
        go_wp2
        go_roundw
        case rel =>
          refine ⟨k + 1, by omega, by go_num, ?_, HA6.out, HV7.out, HX6.out⟩
          rw [HT.out, List.filter_append]
          have : ([t].filter fun t => (B.get t).1 == e0) = [t] := by simp [HGE.out]
          rw [this]
          exact HV6.out
        case measure => simp [intOf]; omega
      · have qe : (e0 == s) = false := by simpa using he
        have HE := Lib.hid he
        clear he
        go_wp2
        go_roundw
        case rel =>
          refine ⟨k + 1, by omega, by go_num, ?_, HAP.out, HV.out, HX.out⟩
          rw [HT.out, List.filter_append]
          have : ([t].filter fun t => (B.get t).1 == s) = [] := by simp [HGE.out, HE.out]
          rw [this, List.append_nil]
          exact HL.out
        case measure => simp [intOf]; omega
    · have hkn : k = B.nums.length := by omega
      have hl := HL.out
      rw [hkn, List.take_length, list_nums HH.out.ok HS.out] at hl
      have HL2 := Lib.hid hl
      clear hl
      go_wp2
      go_ret
      exact ⟨_, rfl, HL2.out, HX.out⟩
theorem committed_nil (w : World) : Calls Try.prog 17 #[.pointer none] w fun e w' => e = .returned (.slice none 0 0) ∧ w = w' := by
  go_enter Try.func17, Try.ntmps17
  go_wp2_with (go_at_call 30; refine (list_nil _ _).mono ?_; rintro e w' ⟨rfl, rfl⟩)
  go_ret
  exact ⟨rfl, rfl⟩
theorem active_nil (w : World) : Calls Try.prog 20 #[.pointer none] w fun e w' => e = .returned (.slice none 0 0) ∧ w = w' := by
  go_enter Try.func20, Try.ntmps20
  go_wp2_with (go_at_call 30; refine (list_nil _ _).mono ?_; rintro e w' ⟨rfl, rfl⟩)
  go_ret
  exact ⟨rfl, rfl⟩
theorem committed_any (r : Nat) (F : Nat → Prop) (B : Bk) (w : World) (h : BookAt w r F B) :
    Calls Try.prog 17 #[.pointer (some ⟨r, 0, none⟩)] w fun e w' => ∃ v, e = .returned v ∧ Ints w' w.heap.size v (B.list 2) ∧ Chg (fun _ => False) w w' := by
  have HH := Lib.hid h
  clear h
  go_enter Try.func17, Try.ntmps17
  go_wp2_with fail
  refine (list_any r F B w 2 (by decide) HH.out).mono ?_
  rintro e w2 ⟨v, rfl, hv, x2⟩
  have V2 := Lib.hid hv; have X2 := Lib.hid x2
  clear hv x2
  go_wp2
  go_ret
  exact ⟨_, rfl, V2.out, X2.out⟩
theorem active_any (r : Nat) (F : Nat → Prop) (B : Bk) (w : World) (h : BookAt w r F B) :
    Calls Try.prog 20 #[.pointer (some ⟨r, 0, none⟩)] w fun e w' => ∃ v, e = .returned v ∧ Ints w' w.heap.size v (B.list 1) ∧ Chg (fun _ => False) w w' := by
  have HH := Lib.hid h
  clear h
  go_enter Try.func20, Try.ntmps20
  go_wp2_with fail
  refine (list_any r F B w 1 (by decide) HH.out).mono ?_
  rintro e w2 ⟨v, rfl, hv, x2⟩
  have V2 := Lib.hid hv; have X2 := Lib.hid x2
  clear hv x2
  go_wp2
  go_ret
  exact ⟨_, rfl, V2.out, X2.out⟩
end Go.Proofs.Ytkneldeemlngkaa
