/-
  The walk of plays: begins, commits and aborts, at most sixty. Conditions: a book stands at the address, the script is read as it came in.
-/
import Derived.Test.YtfegpmbgcocldaaMLaws
import Derived.Test.YtfegpmbgcocldaaMChain
set_option autoImplicit false
namespace Go.Proofs.Ytfegpmbgcocldaa
open Go Go.RowKit

theorem begin_any (r : Nat) (F : Nat → Prop) (B : Bk) (w : World) (h : BookAt w r F B) (hs : B.step < 9223372036854775807) :
    Calls Try.prog 15 #[.pointer (some ⟨r, 0, none⟩)] w fun e w' => e = .returned (.tuple (if B.most < B.next then #[.int .i64 0, .int .i64 23] else #[.int .i64 B.next, .int .i64 0])) ∧ BookAt w' r F B.beginB ∧ Chg F w w' := by
  unfold Bk.beginB
  by_cases hm : B.most < B.next
  · rw [if_pos hm, if_pos hm]
    refine (begin_full r F B w h hm).mono ?_
    rintro e w' ⟨rfl, x⟩
    exact ⟨rfl, h.quiet x, x.mono (fun _ h => h.elim)⟩
  · rw [if_neg hm, if_neg hm]
    exact begin_ok r F B w h (by omega) hs
def opsV (K T U : Nat → Int) (i j : Nat) : Value := if j = 0 then .int .i64 (K i) else if j = 1 then .int .i64 (T i) else .int .i64 (U i)
set_option maxRecDepth 100000 in
set_option maxHeartbeats 1000000 in
theorem plays_any (r : Nat) (F : Nat → Prop) (B : Bk) (w0 w : World) (ao : Option Addr) (len cap : Nat) (K T U : Nat → Int) (hm : len ≤ 9223372036854775807) (hp : SlRd w0 ao len 3 (opsV K T U)) (hx : From0 w0 w) (hF : ∀ k, F k → w0.heap.size ≤ k) (h : BookAt w r F B) (hs : B.step ≤ 1000000) :
    Calls Try.prog 20 #[.pointer (some ⟨r, 0, none⟩), .slice ao len cap] w fun e w' => e = .returned (.tuple #[]) ∧ ∃ n B', n ≤ 60 ∧ Steps n B B' ∧ BookAt w' r F B' ∧ Chg F w w' := by
  have HP := Lib.hid hp; have HX := Lib.hid hx; have HF := Lib.hid hF; have HB := Lib.hid h
  clear hp hx hF h
  go_enter Try.func20, Try.ntmps20
  go_wp2
  go_loopw [4] (fun s4 wr => ∃ (i : Nat) (C : Bk), i ≤ 60 ∧ i ≤ len ∧ s4 = .int .i64 i ∧ Steps i B C ∧ BookAt wr r F C ∧ Chg F w wr) (fun s4 _ => 60 - (intOf s4).toNat)
  case atStart => exact ⟨0, B, by omega, by omega, rfl, .nil B, HB.out, Chg.refl _ _⟩
  case round =>
    clear HB
    obtain ⟨i, C, hi, hil, rfl, hst, hb, hx⟩ := hrel
    have hbd := hst.bounds.1
    have ST := Lib.hid hst; have HB := Lib.hid hb; have HX2 := Lib.hid hx
    clear hst hb hx
    by_cases hlt : i < len
    · by_cases h60 : i < 60
      · obtain ⟨bO, oO, rfl, hbO, hcO⟩ := HP.out (by omega)
        have hfr := HX.out.trans HX2.out (fun k hk => .inl (HF.out k hk))
        have hK := From0.at hfr hbO (hcO i 0 hlt (by omega))
        have hT := From0.at hfr hbO (hcO i 1 hlt (by omega))
        simp only [opsV, if_true, Nat.one_ne_zero, if_false, Nat.add_zero] at hK hT
        clear hcO hfr
        generalize K i = Ki at *
        generalize T i = Ti at *
        have hop : ∀ x, C.op Ki Ti = x → Hid (C.op Ki Ti = x) := fun x h => Lib.hid h
        by_cases k1 : Ki = 1
        · subst k1
          have HO := hop C.beginB rfl
          clear hop
          go_wp2_with fail
          refine (begin_any r F C wr HB.out (by omega)).mono ?_
          rintro e w3 ⟨rfl, b3, x3⟩
          have B3 := Lib.hid b3; have X3 := Lib.hid (HX2.out.trans x3 (fun _ h => .inl h))
          clear b3 x3
          go_wp2
          go_roundw
          case rel => exact ⟨i + 1, _, by omega, by omega, by go_num, .op ST.out 1 Ti, by rw [HO.out]; exact B3.out, X3.out⟩
          case measure => simp [intOf]; omega
        · have q1 : (Ki == 1) = false := by simpa using k1
          by_cases k2 : Ki = 2
          · subst k2
            have HO := hop (C.endB Ti 2) rfl
            clear hop k1
            go_wp2_with fail
            refine (commit_any r F C wr Ti HB.out (by omega)).mono ?_
            rintro e w3 ⟨rfl, b3, x3⟩
            have B3 := Lib.hid b3; have X3 := Lib.hid (HX2.out.trans x3 (fun _ h => .inl h))
            clear b3 x3
            go_wp2
            go_roundw
            case rel => exact ⟨i + 1, _, by omega, by omega, by go_num, .op ST.out 2 Ti, by rw [HO.out]; exact B3.out, X3.out⟩
            case measure => simp [intOf]; omega
          · have q2 : (Ki == 2) = false := by simpa using k2
            by_cases k3 : Ki = 3
            · subst k3
              have HO := hop (C.endB Ti 3) rfl
              clear hop k1 k2
              go_wp2_with fail
              refine (abort_any r F C wr Ti HB.out (by omega)).mono ?_
              rintro e w3 ⟨rfl, b3, x3⟩
              have B3 := Lib.hid b3; have X3 := Lib.hid (HX2.out.trans x3 (fun _ h => .inl h))
              clear b3 x3
              go_wp2
              go_roundw
              case rel => exact ⟨i + 1, _, by omega, by omega, by go_num, .op ST.out 3 Ti, by rw [HO.out]; exact B3.out, X3.out⟩
              case measure => simp [intOf]; omega
            · have q3 : (Ki == 3) = false := by simpa using k3
              have HO := hop C (by unfold Bk.op; rw [if_neg k1, if_neg k2, if_neg k3])
              clear hop k1 k2 k3
              go_wp2
              go_roundw
              case rel => exact ⟨i + 1, _, by omega, by omega, by go_num, .op ST.out Ki Ti, by rw [HO.out]; exact HB.out, HX2.out⟩
              case measure => simp [intOf]; omega
      · go_wp2
        go_end0
        exact ⟨rfl, i, C, hi, ST.out, HB.out, HX2.out⟩
    · go_wp2
      go_end0
      exact ⟨rfl, i, C, hi, ST.out, HB.out, HX2.out⟩
end Go.Proofs.Ytfegpmbgcocldaa
