/-
  The catalog's reader: take and flag. No condition beyond each lemma's own.
-/
import Derived.Test.YtpiijcjbphpffaaCVals
set_option autoImplicit false
namespace Go.Proofs.Ytpiijcjbphpffaa
open Go Go.RowKit

structure Rd where
  l : List Val
  bad : Bool
def val0 : Val := ⟨0, 0, ⟨#[]⟩⟩
/-- is a value of a kind well made? -/
def okV (v : Val) (kind : Int) : Bool := if kind = 3 then v.num == 0 else if kind = 2 then (v.str == ⟨#[]⟩) && (v.num == 0 || v.num == 1) else v.str == ⟨#[]⟩
def Rd.take (R : Rd) (kind : Int) : Val × Rd := match R.l with
  | [] => (val0, ⟨[], true⟩)
  | v :: l => if v.kind = kind then (v, ⟨l, R.bad || !okV v kind⟩) else (val0, ⟨[], true⟩)
def valV (v : Val) : Value := .agg #[.int .i64 v.kind, .int .i64 v.num, .string v.str]
/-- a reader in memory -/
def RdAt (w : World) (F : Nat → Prop) (b : Nat) (R : Rd) : Prop := ∃ ao cap, w.heap[b]? = some (.cells #[.slice ao R.l.length cap, .bool R.bad] 83 (0, 0)) ∧ R.l.length ≤ cap ∧ ValsAt w F (.slice ao R.l.length cap) R.l
theorem RdAt.chg {w w' : World} {F G : Nat → Prop} {b : Nat} {R : Rd} (h : RdAt w F b R) (c : Chg G w w') (hb : ¬ G b) (hd : ∀ k, F k → ¬ G k) : RdAt w' F b R := by
  obtain ⟨ao, cap, h1, h2, h3⟩ := h
  exact ⟨ao, cap, c.heap h1 hb, h2, RowAt.chg h3 c hd⟩
theorem RdAt.lt {w : World} {F : Nat → Prop} {b : Nat} {R : Rd} (h : RdAt w F b R) : b < w.heap.size := by
  obtain ⟨ao, cap, h1, _⟩ := h
  exact lt_of_heap h1
theorem take_shut {w : World} {b : Nat} {ao : Option Addr} {n cap : Nat} {bad : Bool} {x : Value} {y : Bool} (h : w.heap[b]? = some (.cells #[.slice ao n cap, .bool bad] 83 (0, 0))) (o : Obj) :
    (((w.setCell ⟨b, 1, none⟩ (.bool y)).setCell ⟨b, 0, none⟩ x).alloc o).heap[b]? = some (.cells #[x, .bool y] 83 (0, 0)) ∧ Chg (fun k => k = b) w (((w.setCell ⟨b, 1, none⟩ (.bool y)).setCell ⟨b, 0, none⟩ x).alloc o) := by
  have hb := lt_of_heap h
  refine ⟨?_, (((Chg.refl (fun k => k = b) w).setCell (p := ⟨b, 1, none⟩) (.inl rfl) _).setCell (p := ⟨b, 0, none⟩) (.inl rfl) _).alloc _⟩
  rw [hal_old (by simpa using hb), hset_eq (hset_eq h)]
  rfl
theorem RdAt.none {w : World} {F : Nat → Prop} {b : Nat} {bad : Bool} (h : w.heap[b]? = some (.cells #[.slice Option.none 0 0, .bool bad] 83 (0, 0))) : RdAt w F b ⟨[], bad⟩ := ⟨Option.none, 0, h, Nat.le_refl _, RowAt.nil _ _ _ _⟩
set_option maxRecDepth 100000 in
set_option maxHeartbeats 2000000 in
theorem take_none (b : Nat) (F : Nat → Prop) (R : Rd) (kind : Int) (w : World) (h : RdAt w F b R) (hl : R.l = []) :
    Calls Try.prog 34 #[.pointer (some ⟨b, 0, none⟩), .int .i64 kind] w fun e w' => e = .returned (valV val0) ∧ RdAt w' F b ⟨[], true⟩ ∧ Chg (fun k => k = b) w w' := by
  obtain ⟨l, bad⟩ := R
  simp only at hl
  subst hl
  obtain ⟨ao, cap, h1, h2, h3⟩ := h
  have c0 := cell_of_row w b 0 _ _ _ h1
  have c1 := cell_of_row w b 1 _ _ _ h1
  have f0 := frozen_of_row w b 0 _ _ h1
  have f1 := frozen_of_row w b 1 _ _ h1
  have hb := lt_of_heap h1
  have H1 := Lib.hid h1
  clear h1 h3
  go_enter Try.func34, Try.ntmps34
  go_wp2
  obtain ⟨q1, q2⟩ := take_shut (x := .slice none 0 0) (y := true) H1.out (.cells #[.int .i64 0, .int .i64 0, .string ⟨#[]⟩] 62)
  refine bodyPost_ret (results_big1 Try.results34 _ _ w.heap.size [.int .i64 0, .int .i64 0, .string ⟨#[]⟩] _ rfl (range_block (hal_new' (by simp))) Try.underlying62 rfl (by kernel_rfl)) rfl ⟨rfl, RdAt.none q1, q2⟩
set_option maxRecDepth 100000 in
set_option maxHeartbeats 2000000 in
theorem take_other (b : Nat) (F : Nat → Prop) (v : Val) (l : List Val) (bad : Bool) (kind : Int) (w : World) (h : RdAt w F b ⟨v :: l, bad⟩) (hk : v.kind ≠ kind) (hm : l.length < 9223372036854775807) :
    Calls Try.prog 34 #[.pointer (some ⟨b, 0, none⟩), .int .i64 kind] w fun e w' => e = .returned (valV val0) ∧ RdAt w' F b ⟨[], true⟩ ∧ Chg (fun k => k = b) w w' := by
  obtain ⟨ao, cap, h1, h2, h3⟩ := h
  obtain ⟨bb, o, rfl, hbl, hfb, q0, q1, q2⟩ := ValsAt.val (i := 0) h3 rfl
  simp only [Nat.zero_mul, Nat.add_zero] at q0 q1 q2
  have c0 := cell_of_row w b 0 _ _ _ h1
  have c1 := cell_of_row w b 1 _ _ _ h1
  have f0 := frozen_of_row w b 0 _ _ h1
  have f1 := frozen_of_row w b 1 _ _ h1
  have hb := lt_of_heap h1
  have H1 := Lib.hid h1
  have hkb : (v.kind != kind) = true := by simpa using hk
  clear h1 h3 hk
  simp only [List.length_cons] at *
  go_enter Try.func34, Try.ntmps34
  go_wp2
  obtain ⟨q1, q2⟩ := take_shut (x := .slice none 0 0) (y := true) H1.out (.cells #[.int .i64 0, .int .i64 0, .string ⟨#[]⟩] 62)
  refine bodyPost_ret (results_big1 Try.results34 _ _ w.heap.size [.int .i64 0, .int .i64 0, .string ⟨#[]⟩] _ rfl (range_block (hal_new' (by simp))) Try.underlying62 rfl (by kernel_rfl)) rfl ⟨rfl, RdAt.none q1, q2⟩
theorem take_keep {w : World} {F : Nat → Prop} {b : Nat} {l : List Val} {bad bad' : Bool} {ao ao' : Option Addr} {n cap cap' : Nat} {o p : Obj} (h : w.heap[b]? = some (.cells #[.slice ao n cap, .bool bad] 83 (0, 0))) (hF : ¬ F b) (hv : ValsAt w F (.slice ao' l.length cap') l) (hc : l.length ≤ cap') (hb : bad' = bad) :
    RdAt (((w.setCell ⟨b, 0, none⟩ (.slice ao' l.length cap')).alloc o).alloc p) F b ⟨l, bad'⟩ ∧ Chg (fun k => k = b) w (((w.setCell ⟨b, 0, none⟩ (.slice ao' l.length cap')).alloc o).alloc p) := by
  subst hb
  have hl := lt_of_heap h
  have hx : Chg (fun k => k = b) w (((w.setCell ⟨b, 0, none⟩ (.slice ao' l.length cap')).alloc o).alloc p) := (((Chg.refl (fun k => k = b) w).setCell (p := ⟨b, 0, none⟩) (.inl rfl) _).alloc _).alloc _
  refine ⟨⟨ao', cap', ?_, hc, RowAt.chg hv hx (fun k hk e => hF (e ▸ hk))⟩, hx⟩
  rw [hal_old (by simp; omega), hal_old (by simpa using hl), hset_eq h]
  rfl
theorem take_spoil {w : World} {F : Nat → Prop} {b : Nat} {l : List Val} {bad bad' : Bool} {ao ao' : Option Addr} {n cap cap' : Nat} {o p : Obj} (h : w.heap[b]? = some (.cells #[.slice ao n cap, .bool bad] 83 (0, 0))) (hF : ¬ F b) (hv : ValsAt w F (.slice ao' l.length cap') l) (hc : l.length ≤ cap') (hb : bad' = true) :
    RdAt ((((w.setCell ⟨b, 0, none⟩ (.slice ao' l.length cap')).setCell ⟨b, 1, none⟩ (.bool true)).alloc o).alloc p) F b ⟨l, bad'⟩ ∧ Chg (fun k => k = b) w ((((w.setCell ⟨b, 0, none⟩ (.slice ao' l.length cap')).setCell ⟨b, 1, none⟩ (.bool true)).alloc o).alloc p) := by
  subst hb
  have hl := lt_of_heap h
  have hx : Chg (fun k => k = b) w ((((w.setCell ⟨b, 0, none⟩ (.slice ao' l.length cap')).setCell ⟨b, 1, none⟩ (.bool true)).alloc o).alloc p) := ((((Chg.refl (fun k => k = b) w).setCell (p := ⟨b, 0, none⟩) (.inl rfl) _).setCell (p := ⟨b, 1, none⟩) (.inl rfl) _).alloc _).alloc _
  refine ⟨⟨ao', cap', ?_, hc, RowAt.chg hv hx (fun k hk e => hF (e ▸ hk))⟩, hx⟩
  rw [hal_old (by simp; omega), hal_old (by simpa using hl), hset_eq (hset_eq h)]
  rfl
theorem vals_tail {w : World} {F : Nat → Prop} {b o cap : Nat} {v : Val} {l : List Val} (h : ValsAt w F (.slice (some ⟨b, o, none⟩) (v :: l).length cap) (v :: l)) : ValsAt w F (.slice (some ⟨b, o + 3, none⟩) l.length (cap - 1)) l := by
  obtain ⟨ao, cap', he, hp⟩ := h
  simp only [Value.slice.injEq] at he
  obtain ⟨rfl, _, rfl⟩ := he
  refine ⟨_, _, rfl, fun _ => ?_⟩
  obtain ⟨b', o', h1, h2, h3, h4⟩ := hp (by simp)
  simp only [Option.some.injEq, Addr.mk.injEq] at h1
  obtain ⟨rfl, rfl, _⟩ := h1
  exact ⟨b, o + 3, rfl, h2, h3, range_add (a := v.cells) h4 rfl⟩
theorem okV1 {v : Val} {e : Bool} (h : v.str.toList.isEmpty = e) : okV v 1 = e := by
  unfold okV
  rw [if_neg (by omega), if_neg (by omega), beq_list, ← h]
  rw [show (ByteArray.toList ⟨#[]⟩) = [] by rw [Lib.toList_data]]
  cases v.str.toList <;> rfl
theorem okV2 {v : Val} {e f : Bool} (h : v.str.toList.isEmpty = e) (hn : (v.num / 2 != 0) = f) : okV v 2 = (e && !f) := by
  unfold okV
  rw [if_neg (by omega), if_pos rfl, beq_list, ← h, ← hn]
  rw [show (ByteArray.toList ⟨#[]⟩) = [] by rw [Lib.toList_data]]
  have : (v.num == 0 || v.num == 1) = !(v.num / 2 != 0) := by
    rw [Bool.eq_iff_iff]
    simp
    omega
  rw [this]
  cases v.str.toList <;> rfl
theorem okV3 {v : Val} {e : Bool} (h : (v.num != 0) = e) : okV v 3 = !e := by
  unfold okV
  rw [if_pos rfl, ← h]
  show (v.num == 0) = !(!(v.num == 0))
  rw [Bool.not_not]
set_option maxRecDepth 100000 in
set_option maxHeartbeats 2000000 in
theorem take_this (b : Nat) (F : Nat → Prop) (v : Val) (l : List Val) (bad : Bool) (kind : Int) (w : World) (h : RdAt w F b ⟨v :: l, bad⟩) (hF : ¬ F b) (hk : v.kind = kind) (hk3 : kind = 1 ∨ kind = 2 ∨ kind = 3) (hm : l.length < 9223372036854775807) :
    Calls Try.prog 34 #[.pointer (some ⟨b, 0, none⟩), .int .i64 kind] w fun e w' => e = .returned (valV v) ∧ RdAt w' F b ⟨l, bad || !okV v kind⟩ ∧ Chg (fun k => k = b) w w' := by
  obtain ⟨ao, cap, h1, h2, h3⟩ := h
  obtain ⟨bb, o, rfl, hbl, hfb, q0, q1, q2⟩ := ValsAt.val (i := 0) h3 rfl
  simp only [Nat.zero_mul, Nat.add_zero] at q0 q1 q2
  have c0 := cell_of_row w b 0 _ _ _ h1
  have c1 := cell_of_row w b 1 _ _ _ h1
  have f0 := frozen_of_row w b 0 _ _ h1
  have f1 := frozen_of_row w b 1 _ _ h1
  have hb := lt_of_heap h1
  have H1 := Lib.hid h1
  have HK := Lib.hid hk
  have h3' := h3
  rw [hk] at q0
  clear h1 h3 hk
  simp only [List.length_cons] at *
  have hres : ∀ (W : World), W.heap.size = w.heap.size → ∀ p, ((W.alloc (.cells #[.int .i64 kind, .int .i64 v.num, .string v.str] 62)).alloc p).rangeAt w.heap.size 0 [.int .i64 kind, .int .i64 v.num, .string v.str] := fun W hz p => range_block (by rw [hal_old (by simp; omega)]; exact hal_new' hz.symm)
  have HRES := Lib.hid hres
  have hret : Ending.returned (.agg #[.int .i64 kind, .int .i64 v.num, .string v.str]) = Ending.returned (valV v) := by unfold valV; rw [HK.out]
  have HRET := Lib.hid hret
  have HVL : Hid (ValsAt w F (.slice (some ⟨bb, o + 3, none⟩) l.length (cap - 1)) l) := Lib.hid (vals_tail h3')
  clear hres hret h3'
  by_cases hc1 : cap = 1
  · obtain rfl : l = [] := List.eq_nil_of_length_eq_zero (by omega)
    have HV : Hid (ValsAt w F (.slice (some ⟨bb, o, none⟩) 0 0) []) := Lib.hid (RowAt.nil _ _ _ _)
    subst hc1
    rcases hk3 with rfl | rfl | rfl
    · cases hs : v.str.toList.isEmpty with
      | true =>
        have HO := Lib.hid (okV1 hs)
        go_enter Try.func34, Try.ntmps34
        go_wp2
        refine bodyPost_ret (results_big1 Try.results34 _ _ w.heap.size [.int .i64 1, .int .i64 v.num, .string v.str] _ rfl (HRES.out _ (by simp) _) Try.underlying62 rfl (by kernel_rfl)) rfl ⟨HRET.out, ?_⟩
        exact take_keep (l := []) H1.out hF HV.out (Nat.le_refl _) (by rw [HO.out]; simp)
      | false =>
        have HO := Lib.hid (okV1 hs)
        go_enter Try.func34, Try.ntmps34
        go_wp2
        refine bodyPost_ret (results_big1 Try.results34 _ _ w.heap.size [.int .i64 1, .int .i64 v.num, .string v.str] _ rfl (HRES.out _ (by simp) _) Try.underlying62 rfl (by kernel_rfl)) rfl ⟨HRET.out, ?_⟩
        exact take_spoil (l := []) H1.out hF HV.out (Nat.le_refl _) (by rw [HO.out]; simp)
    · cases hs : v.str.toList.isEmpty with
      | true =>
        cases hn : (v.num / 2 != 0) with
        | false =>
          have HO := Lib.hid (okV2 hs hn)
          go_enter Try.func34, Try.ntmps34
          go_wp2
          refine bodyPost_ret (results_big1 Try.results34 _ _ w.heap.size [.int .i64 2, .int .i64 v.num, .string v.str] _ rfl (HRES.out _ (by simp) _) Try.underlying62 rfl (by kernel_rfl)) rfl ⟨HRET.out, ?_⟩
          exact take_keep (l := []) H1.out hF HV.out (Nat.le_refl _) (by rw [HO.out]; simp)
        | true =>
          have HO := Lib.hid (okV2 hs hn)
          go_enter Try.func34, Try.ntmps34
          go_wp2
          refine bodyPost_ret (results_big1 Try.results34 _ _ w.heap.size [.int .i64 2, .int .i64 v.num, .string v.str] _ rfl (HRES.out _ (by simp) _) Try.underlying62 rfl (by kernel_rfl)) rfl ⟨HRET.out, ?_⟩
          exact take_spoil (l := []) H1.out hF HV.out (Nat.le_refl _) (by rw [HO.out]; simp)
      | false =>
        have HO := Lib.hid (okV2 hs (f := (v.num / 2 != 0)) rfl)
        go_enter Try.func34, Try.ntmps34
        go_wp2
        refine bodyPost_ret (results_big1 Try.results34 _ _ w.heap.size [.int .i64 2, .int .i64 v.num, .string v.str] _ rfl (HRES.out _ (by simp) _) Try.underlying62 rfl (by kernel_rfl)) rfl ⟨HRET.out, ?_⟩
        exact take_spoil (l := []) H1.out hF HV.out (Nat.le_refl _) (by rw [HO.out]; simp)
    · cases hn : (v.num != 0) with
      | false =>
        have HO := Lib.hid (okV3 hn)
        go_enter Try.func34, Try.ntmps34
        go_wp2
        refine bodyPost_ret (results_big1 Try.results34 _ _ w.heap.size [.int .i64 3, .int .i64 v.num, .string v.str] _ rfl (HRES.out _ (by simp) _) Try.underlying62 rfl (by kernel_rfl)) rfl ⟨HRET.out, ?_⟩
        exact take_keep (l := []) H1.out hF HV.out (Nat.le_refl _) (by rw [HO.out]; simp)
      | true =>
        have HO := Lib.hid (okV3 hn)
        go_enter Try.func34, Try.ntmps34
        go_wp2
        refine bodyPost_ret (results_big1 Try.results34 _ _ w.heap.size [.int .i64 3, .int .i64 v.num, .string v.str] _ rfl (HRES.out _ (by simp) _) Try.underlying62 rfl (by kernel_rfl)) rfl ⟨HRET.out, ?_⟩
        exact take_spoil (l := []) H1.out hF HV.out (Nat.le_refl _) (by rw [HO.out]; simp)
  · have HV : Hid (ValsAt w F (.slice (some ⟨bb, o + 3, none⟩) l.length (cap - 1)) l) := Lib.hid (HVL.out)
    have hcg : l.length + 1 ≤ cap := h2
    have hcc : ((cap : Int) == 1) = false := by simp; omega
    rcases hk3 with rfl | rfl | rfl
    · cases hs : v.str.toList.isEmpty with
      | true =>
        have HO := Lib.hid (okV1 hs)
        go_enter Try.func34, Try.ntmps34
        go_wp2
        refine bodyPost_ret (results_big1 Try.results34 _ _ w.heap.size [.int .i64 1, .int .i64 v.num, .string v.str] _ rfl (HRES.out _ (by simp) _) Try.underlying62 rfl (by kernel_rfl)) rfl ⟨HRET.out, ?_⟩
        exact take_keep H1.out hF HV.out (by omega) (by rw [HO.out]; simp)
      | false =>
        have HO := Lib.hid (okV1 hs)
        go_enter Try.func34, Try.ntmps34
        go_wp2
        refine bodyPost_ret (results_big1 Try.results34 _ _ w.heap.size [.int .i64 1, .int .i64 v.num, .string v.str] _ rfl (HRES.out _ (by simp) _) Try.underlying62 rfl (by kernel_rfl)) rfl ⟨HRET.out, ?_⟩
        exact take_spoil H1.out hF HV.out (by omega) (by rw [HO.out]; simp)
    · cases hs : v.str.toList.isEmpty with
      | true =>
        cases hn : (v.num / 2 != 0) with
        | false =>
          have HO := Lib.hid (okV2 hs hn)
          go_enter Try.func34, Try.ntmps34
          go_wp2
          refine bodyPost_ret (results_big1 Try.results34 _ _ w.heap.size [.int .i64 2, .int .i64 v.num, .string v.str] _ rfl (HRES.out _ (by simp) _) Try.underlying62 rfl (by kernel_rfl)) rfl ⟨HRET.out, ?_⟩
          exact take_keep H1.out hF HV.out (by omega) (by rw [HO.out]; simp)
        | true =>
          have HO := Lib.hid (okV2 hs hn)
          go_enter Try.func34, Try.ntmps34
          go_wp2
          refine bodyPost_ret (results_big1 Try.results34 _ _ w.heap.size [.int .i64 2, .int .i64 v.num, .string v.str] _ rfl (HRES.out _ (by simp) _) Try.underlying62 rfl (by kernel_rfl)) rfl ⟨HRET.out, ?_⟩
          exact take_spoil H1.out hF HV.out (by omega) (by rw [HO.out]; simp)
      | false =>
        have HO := Lib.hid (okV2 hs (f := (v.num / 2 != 0)) rfl)
        go_enter Try.func34, Try.ntmps34
        go_wp2
        refine bodyPost_ret (results_big1 Try.results34 _ _ w.heap.size [.int .i64 2, .int .i64 v.num, .string v.str] _ rfl (HRES.out _ (by simp) _) Try.underlying62 rfl (by kernel_rfl)) rfl ⟨HRET.out, ?_⟩
        exact take_spoil H1.out hF HV.out (by omega) (by rw [HO.out]; simp)
    · cases hn : (v.num != 0) with
      | false =>
        have HO := Lib.hid (okV3 hn)
        go_enter Try.func34, Try.ntmps34
        go_wp2
        refine bodyPost_ret (results_big1 Try.results34 _ _ w.heap.size [.int .i64 3, .int .i64 v.num, .string v.str] _ rfl (HRES.out _ (by simp) _) Try.underlying62 rfl (by kernel_rfl)) rfl ⟨HRET.out, ?_⟩
        exact take_keep H1.out hF HV.out (by omega) (by rw [HO.out]; simp)
      | true =>
        have HO := Lib.hid (okV3 hn)
        go_enter Try.func34, Try.ntmps34
        go_wp2
        refine bodyPost_ret (results_big1 Try.results34 _ _ w.heap.size [.int .i64 3, .int .i64 v.num, .string v.str] _ rfl (HRES.out _ (by simp) _) Try.underlying62 rfl (by kernel_rfl)) rfl ⟨HRET.out, ?_⟩
        exact take_spoil H1.out hF HV.out (by omega) (by rw [HO.out]; simp)
end Go.Proofs.Ytpiijcjbphpffaa
