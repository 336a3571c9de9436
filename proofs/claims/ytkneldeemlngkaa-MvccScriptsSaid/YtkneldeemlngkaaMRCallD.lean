/-
  What the document's book does: Begin. No condition beyond each lemma's own.
-/
import Derived.Test.YtkneldeemlngkaaMRCallC
set_option autoImplicit false
namespace Go.Proofs.Ytkneldeemlngkaa
open Go Go.RowKit

theorem rbegin_nil (w : World) : Calls Try.prog 14 #[.pointer none] w fun e w' => e = .returned (.tuple #[.int .i64 0, .int .i64 2]) ∧ w = w' := by
  go_enter Try.func14, Try.ntmps14
  go_wp2
  go_ret2
  exact ⟨rfl, rfl⟩
set_option maxRecDepth 100000 in
theorem rbegin_full (r : Nat) (F : Nat → Prop) (R : RBk) (w : World) (h : RBookAt w r F R) (hm : R.most < R.l.length) :
    Calls Try.prog 14 #[.pointer (some ⟨r, 0, none⟩)] w fun e w' => e = .returned (.tuple #[.int .i64 0, .int .i64 23]) ∧ Chg (fun _ => False) w w' := by
  have hok := h.ok
  have b1 : (R.l.length : Int) ≤ 16777217 := by have := hok.n2; have := hok.m1; omega
  obtain ⟨v, us, h⟩ := h
  obtain ⟨g, cap, rfl, c0, c1, _⟩ := h.read
  clear h hok
  generalize R.l.length = ln at *
  generalize R.most = mo at *
  go_enter Try.func14, Try.ntmps14
  go_wp2
  go_quiet (fail)
  go_wp2
  go_ret2
  exact ⟨rfl, (Chg.refl _ _).drewN _⟩
theorem take_map (l : List TxA) (k : Nat) (h : k < l.length) : (l.map (fun x => x.st == 2)).take (k + 1) = (l.map (fun x => x.st == 2)).take k ++ [l[k].st == 2] := by
  rw [List.take_succ_eq_append_getElem (by simpa using h), List.getElem_map]
set_option maxRecDepth 100000 in
set_option maxHeartbeats 1000000 in
theorem rbegin_ok (r : Nat) (F : Nat → Prop) (R : RBk) (w : World) (h : RBookAt w r F R) (hm : (R.l.length : Int) ≤ R.most) :
    Calls Try.prog 14 #[.pointer (some ⟨r, 0, none⟩)] w fun e w' => e = .returned (.tuple #[.int .i64 R.l.length, .int .i64 0]) ∧ RBookAt w' r (Ext F w w') R.begin ∧ Chg F w w' := by
  have HH := Lib.hid h
  have hok := h.ok
  have hn1 := hok.n1
  have b1 : (R.l.length : Int) ≤ 16777217 := by have := hok.n2; have := hok.m1; omega
  obtain ⟨v, us, h⟩ := h
  have HI := Lib.hid h
  obtain ⟨g, cap, rfl, c0, c1, _⟩ := h.read
  clear h hok
  obtain ⟨mo, hmo⟩ : ∃ mo, R.most = mo := ⟨_, rfl⟩
  have HMO := Lib.hid hmo
  rw [hmo] at c1 hm
  clear hmo
  go_enter Try.func14, Try.ntmps14
  go_wp2
  go_quiet (fail)
  go_wp2
  go_loopw [4, 5] (fun s4 s5 wr => ∃ k : Nat, k ≤ R.l.length ∧ s5 = .int .i64 k ∧ Bls wr w.heap.size s4 ((R.l.map (fun x => x.st == 2)).take k) ∧ Chg (fun _ => False) w wr) (fun _ s5 _ => R.l.length - (intOf s5).toNat)
  case atStart => exact ⟨0, Nat.zero_le _, rfl, Bls.nil _ _, (Chg.refl _ _).drewN _⟩
  case round =>
    clear c0 c1
    obtain ⟨k, hk, rfl, hl, hx⟩ := hrel
    have HL := Lib.hid hl; have HX := Lib.hid hx
    clear hl hx
    have h2 := HI.out.chg HX.out (fun _ _ h => h)
    obtain ⟨g', cap', hv', c0, c1, hat⟩ := h2.read
    obtain ⟨rfl, rfl⟩ : g' = g ∧ cap' = cap := by
      injection hv' with e2 e3 e4
      injection e2 with e5
      injection e5 with e6
      exact ⟨e6.symm, e4.symm⟩
    clear hv'
    by_cases hlt : k < R.l.length
    · obtain ⟨sv, q0, _⟩ := hat k hlt
      have hgk : R.l[k] = R.tx k := by unfold RBk.tx; rw [Int.toNat_natCast, List.getElem?_eq_getElem hlt]; rfl
      have HS := Lib.hid (take_map R.l k hlt)
      rw [hgk] at HS
      have hll : ((R.l.map (fun x => x.st == 2)).take k).length ≤ 16777217 := by simp; omega
      have HLL := Lib.hid hll
      clear hat h2 hgk hll
      generalize (R.tx k).st = st at *
      have C6 := Lib.hid ((Chg.refl (fun _ => False) wr).alloc (.cells #[.bool (st == 2)] 4))
      have N6 := Lib.hid (hal_new (w := wr) (o := .cells #[.bool (st == 2)] 4))
      have zr := HX.out.size
      go_wp2_with (at_builtin; refine bls_app rfl _ _ rfl w.heap.size u4 _ rfl (HL.out.quiet C6.out) wr.heap.size (st == 2) rfl N6.out (Nat.lt_of_le_of_lt HLL.out (by omega)) (by simp; omega) ?_)
      intro v6 w6 hv6 c6 hn6
      have HV6 := Lib.hid hv6
      have HX6 := Lib.hid (((HX.out.trans C6.out (fun _ h => h.elim)).trans (G := fun k => u4.ownBlock = some k) c6 (fun x hx => .inr (HL.out.lo x hx))))
      clear hv6 c6 hn6
      go_wp2
      go_roundw
      case rel =>
        refine ⟨k + 1, by omega, by go_num, ?_, HX6.out⟩
        rw [HS.out]
        exact HV6.out
      case measure => simp only [intOf]; omega
    · obtain rfl : k = R.l.length := by omega
      have hb := HL.out
      rw [List.take_of_length_le (by simp)] at hb
      have HB := Lib.hid hb
      obtain ⟨sa, sc, rfl, _⟩ := hb.seen
      rw [HMO.out] at c1
      have hul : us.length = R.l.length := by rw [HI.out.isl, List.length_map]
      have hxa : Chg (fun _ => False) wr (wr.alloc (.cells #[.int .i64 1, .slice sa R.l.length sc, .bool false] 63)) := (Chg.refl _ _).alloc _
      have hln : ((R.l.map (fun x => x.st == 2)).length) = R.l.length := by simp
      rw [hln] at hb HB
      have H6 := Lib.hid (h2.chg hxa (fun _ _ h => h))
      have HS6 := Lib.hid (hb.seen.chg hxa (fun _ _ h => h))
      have XA := Lib.hid hxa
      have HUL := Lib.hid hul
      have hr0 : r < w.heap.size := lt_of_heap HI.out.self
      have hg0 : g' < w.heap.size := ownsRow_lt HI.out.row rfl
      clear hat hb HL h2 hxa hul hln HB
      go_wp2_with (at_builtin; refine tx_app rfl _ _ rfl (.slice (some ⟨g', 0, none⟩) R.l.length cap') us rfl H6.out.row wr.heap.size ⟨1, R.l.map (fun x => x.st == 2), false⟩ (.slice sa R.l.length sc) rfl hal_new rfl (by rw [HUL.out]; omega) ?_)
      intro v8 w8 row8 grow8 own8 g2 cap2 hf8
      rw [HUL.out] at row8 hf8
      subst hf8
      have c68 := (Chg.refl (fun q => (Value.slice (some ⟨g', 0, none⟩) R.l.length cap').ownBlock = some q) _).grown grow8 (fun k hk => .inl hk)
      have self8 := c68.heap H6.out.self (fun e => H6.out.ne r e rfl)
      have d0 := cell_of_row w8 r 0 _ _ _ self8
      have f0 := frozen_of_row w8 r 0 _ _ self8
      have HR8 := Lib.hid row8; have HG8 := Lib.hid grow8; have HO8 := Lib.hid own8
      clear row8 grow8 own8 c68 self8
      go_wp2
      go_ret2
      have hrow : w8.ownsRow 0 63 3 (.slice (some ⟨g2, 0, none⟩) (R.l.length + 1) cap2) (us.length + 1) (us.flatMap txC ++ txC (⟨1, R.l.map (fun x => x.st == 2), false⟩, .slice sa R.l.length sc)) := by
        rw [HUL.out]; exact HR8.out
      have hp := H6.out.pushed (w0 := w) (w2 := w8) (sv := .slice sa R.l.length sc) (x := ⟨1, R.l.map (fun x => x.st == 2), false⟩) hr0 (fun q hq => by
        have := Option.some.inj hq
        show q < _
        have h9 : g' = q := this
        omega) (Nat.le_trans HX.out.size XA.out.size) HS6.out hrow HG8.out (by
        rcases HO8.out with h9 | h9
        · exact .inl h9
        · exact .inr (by rw [h9]; simp)) (by rw [HMO.out]; omega) (by simp)
      have hx6 : Chg F w _ := ((HX.out.trans XA.out (fun _ h => h.elim)).mono (fun _ h => h.elim)).trans hp.2 (fun _ h => .inl h)
      refine ⟨rfl, ⟨_, _, hp.1.mono (fun q hq _ => hq.imp id (fun h9 => ⟨h9.1, by simpa using h9.2⟩))⟩, hx6⟩
end Go.Proofs.Ytkneldeemlngkaa
