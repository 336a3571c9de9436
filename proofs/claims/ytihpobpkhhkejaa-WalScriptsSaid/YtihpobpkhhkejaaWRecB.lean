/-
  What the log's records reads out of bytes. Conditions: the bytes can be read, there are at most 4194304.
-/
import Derived.Test.YtihpobpkhhkejaaWRecs
set_option autoImplicit false
namespace Go.Proofs.Ytihpobpkhhkejaa
open Go Go.RowKit

theorem recsOf_enough : ∀ (f : Nat) (b : List Int), b.length < f → recsOf f b = recsR b := by
  have key : ∀ (f g : Nat) (b : List Int), b.length < f → b.length < g → recsOf f b = recsOf g b := by
    intro f
    induction f with
    | zero => intro g b h; omega
    | succ f ih =>
      intro g b h1 h2
      cases g with
      | zero => omega
      | succ g =>
        simp only [recsOf]
        by_cases hb : b = []
        · simp [hb]
        · rw [if_neg hb, if_neg hb]
          have hp : 0 < b.length := List.length_pos_iff.2 hb
          by_cases hc : b.length < 4 ∨ (b.length : Int) - 4 < numOf (b.take 4)
          · rw [if_pos hc, if_pos hc]
          · rw [if_neg hc, if_neg hc, ih g _ (by rw [List.length_drop]; omega) (by rw [List.length_drop]; omega)]
  intro f b h
  exact key f _ b h (Nat.lt_succ_self _)
theorem recsR_nil : recsR [] = some [] := rfl
theorem recsR_bad {b : List Int} (h0 : 0 < b.length) (h : b.length < 4 ∨ (b.length : Int) - 4 < numOf (b.take 4)) : recsR b = none := by
  unfold recsR
  have : b ≠ [] := by intro e; subst e; simp at h0
  rw [recsOf, if_neg this, if_pos h]
theorem recsR_good {b : List Int} (h4 : 4 ≤ b.length) (m : Nat) (hm : numOf (b.take 4) = m) (h : m + 4 ≤ b.length) : recsR b = (recsR (b.drop (m + 4))).map (((b.drop 4).take m) :: ·) := by
  have : b ≠ [] := by intro e; subst e; simp at h4
  conv => lhs; unfold recsR
  rw [recsOf, if_neg this, if_neg (by omega), hm, Int.toNat_natCast, recsOf_enough _ _ (by rw [List.length_drop]; omega)]
theorem BytR.cut {w : World} {Z : Nat → Prop} {b o n c : Nat} {xs : List Int} (h : BytR w Z (.slice (some ⟨b, o, none⟩) n c) xs) (i j : Nat) (hij : i ≤ j) (hj : j ≤ n) (a' : Option Addr) (c' m : Nat) (hm : m = j - i) (ha : i < j → a' = some ⟨b, o + i, none⟩) : BytR w Z (.slice a' m c') ((xs.drop i).take (j - i)) := by
  obtain ⟨h1, h2, ao, cc, he, h3⟩ := h
  simp only [Value.slice.injEq] at he
  obtain ⟨rfl, rfl, rfl⟩ := he
  have hl : ((xs.drop i).take (j - i)).length = j - i := by rw [List.length_take, List.length_drop]; omega
  refine ⟨fun y hy => h1 y (List.mem_of_mem_drop (List.mem_of_mem_take hy)), by omega, a', c', by rw [hl, hm], fun hp => ?_⟩
  obtain ⟨b', o', e, ho, hc⟩ := h3 (by omega)
  simp only [Option.some.injEq, Addr.mk.injEq] at e
  obtain ⟨rfl, rfl, _⟩ := e
  refine ⟨b, o + i, ha (by omega), ho, fun k hk => ?_⟩
  rw [hl] at hk
  rw [List.getElem_take, List.getElem_drop, Nat.add_assoc]
  exact hc (i + k) (by omega)
theorem BytR.cells {w : World} {Z : Nat → Prop} {b o n c : Nat} {xs : List Int} (h : BytR w Z (.slice (some ⟨b, o, none⟩) n c) xs) : ∀ j, (h : j < xs.length) → w.cell? ⟨b, o + j, none⟩ = some (.int .u8 xs[j]) := fun j hj => by
  have := h.get.2.2 _ rfl j hj
  rw [Addr.add_mid] at this
  exact this
/-- a slice whose length is within its capacity -/
def CapOk (v : Value) : Prop := ∀ a n c, v = .slice a n c → n ≤ c
theorem RecsM.cap {w : World} {Z : Nat → Prop} {v : Value} {rs : List (List Int)} {us : List Value} (h : RecsM w Z v rs us) : CapOk v := fun a n c e => by
  rcases h.row.2 with ⟨e2, hn⟩ | ⟨g, cap, cur, e2, hb, hg, r1, r2, r3, r4⟩
  · rw [e] at e2
    simp only [Value.slice.injEq] at e2
    omega
  · rw [e] at e2
    simp only [Value.slice.injEq] at e2
    omega
def RecsPost (w : World) (o : Option (List (List Int))) (e : Ending) (w' : World) : Prop :=
  match o with
  | none => e = .returned (.tuple #[.slice none 0 0, .bool false])
  | some rs => ∃ v', e = .returned (.tuple #[v', .bool true]) ∧ RecsR w' (fun k => k < w.heap.size) v' rs ∧ CapOk v'
set_option maxRecDepth 100000 in
set_option maxHeartbeats 1000000 in
theorem records_any (bs : List Int) (ao : Option Addr) (n c : Nat) (w : World) (h : BytR w (fun _ => False) (.slice ao n c) bs) (hc : n ≤ c) (hcm : c ≤ maxLen) (hl : bs.length ≤ 4194304) :
    Calls Try.prog 54 #[.slice ao n c] w fun e w' => RecsPost w (recsR bs) e w' ∧ Chg (fun _ => False) w w' := by
  have hn := h.get.1
  have H := Lib.hid h
  clear h
  go_enter Try.func54, Try.ntmps54
  go_wp2
  go_loopw [0, 4] (fun s0 s4 wr => ∃ (ao' : Option Addr) (n' c' : Nat) (rest : List Int) (acc : List (List Int)) (us : List Value), s0 = .slice ao' n' c' ∧ BytR wr (fun k => w.heap.size ≤ k) (.slice ao' n' c') rest ∧ n' ≤ c' ∧ c' ≤ maxLen ∧
      RecsM wr (fun k => k < w.heap.size) s4 acc us ∧ Chg (fun _ => False) w wr ∧ acc.length + rest.length ≤ bs.length ∧ recsR bs = (recsR rest).map (acc ++ ·))
    (fun s0 _ _ => match s0 with | .slice _ n _ => n | _ => 0)
  case atStart => exact ⟨ao, n, c, bs, [], [], rfl, H.out.weaken (fun k hk h => by omega), hc, hcm, RecsM.nil _ _, Chg.refl _ _, by simp, by simp⟩
  case round =>
    obtain ⟨ao', n', c', rest, acc, us, rfl, hb, hc1, hc2, hm, hx, hacc, heq⟩ := hrel
    have hnr := hb.get.1
    have HB := Lib.hid hb; have HM := Lib.hid hm; have HX := Lib.hid hx; have HE := Lib.hid heq
    clear hb hm hx heq
    unfold maxLen at hc2
    by_cases h0 : 0 < n'
    · obtain ⟨b, o, rfl⟩ : ∃ b o, ao' = some ⟨b, o, none⟩ := by
        obtain ⟨_, _, ao2, c2, he, h3⟩ := HB.out
        simp only [Value.slice.injEq] at he
        obtain ⟨rfl, _⟩ := he
        obtain ⟨b, o, e, _⟩ := h3 (by omega)
        exact ⟨b, o, e⟩
      by_cases h4 : n' < 4
      · have hbad := recsR_bad (b := rest) (by omega) (.inl (by omega))
        have HBad := Lib.hid hbad
        clear hbad
        go_wp2
        go_ret2
        rw [HE.out, HBad.out]
        exact ⟨rfl, HX.out⟩
      · have hl4 : (rest.take 4).length = 4 := by rw [List.length_take]; omega
        have hby : Bytes (rest.take 4) := fun y hy => HB.out.1 y (List.mem_of_mem_take hy)
        obtain ⟨m, hmm⟩ : ∃ m : Nat, numOf (rest.take 4) = m := ⟨(numOf (rest.take 4)).toNat, by have := (numOf_le _ hby).1; omega⟩
        have hm2 := (numOf_le _ hby).2
        rw [hl4, hmm] at hm2
        have hm3 : m < 4294967296 := by have : (256 : Int) ^ 4 = 4294967296 := (by decide); omega
        clear hm2
        have hnum : ∀ W : World, (∀ j, (h : j < rest.length) → W.cell? ⟨b, o + j, none⟩ = some (.int .u8 rest[j])) → ∀ cc : Nat, Calls Try.prog 52 #[.slice (some ⟨b, o, none⟩) 4 cc] W fun e w' => e = .returned (.int .u64 m) ∧ W = w' := fun W hW cc => by
          have := number_any b o cc (rest.take 4) W hby (by omega) (fun j hj => by
            rw [hl4] at hj
            rw [List.getElem_take]
            exact hW j (by omega))
          rw [hl4, hmm] at this
          exact this
        have HNum := Lib.hid hnum
        have hmm' := hmm
        have HMM := Lib.hid hmm'
        clear hnum hmm hmm' hl4 hby
        go_wp2_with fail
        refine (HNum.out wr HB.out.cells c').mono ?_
        rintro e w1 ⟨rfl, rfl⟩
        by_cases h5 : (rest.length : Int) - 4 < m
        · have hbad := recsR_bad (b := rest) (by omega) (.inr (by rw [HMM.out]; exact h5))
          have HBad := Lib.hid hbad
          clear hbad
          go_wp2
          go_ret2
          rw [HE.out, HBad.out]
          exact ⟨rfl, HX.out⟩
        · have hgood := recsR_good (b := rest) (by omega) m HMM.out (by omega)
          have HG := Lib.hid hgood
          clear hgood
          go_wp2_with fail
          refine (HNum.out wr HB.out.cells c').mono ?_
          rintro e w1 ⟨rfl, rfl⟩
          have hcl : ∀ a' c'', (0 < m → a' = some ⟨b, o + 4, none⟩) → BytR wr (fun k => w.heap.size ≤ k) (.slice a' m c'') ((rest.drop 4).take m) := fun a' c'' ha => by
            have := HB.out.cut 4 (m + 4) (by omega) (by omega) a' c'' m (by omega) (fun h => ha (by omega))
            rw [Nat.add_sub_cancel] at this
            exact this
          have hcr : ∀ a' c'', (m + 4 < rest.length → a' = some ⟨b, o + (m + 4), none⟩) → BytR wr (fun k => w.heap.size ≤ k) (.slice a' (rest.length - (m + 4)) c'') (rest.drop (m + 4)) := fun a' c'' ha => by
            have := HB.out.cut (m + 4) rest.length (by omega) (by omega) a' c'' (rest.length - (m + 4)) rfl ha
            rw [List.take_of_length_le (by rw [List.length_drop]; omega)] at this
            exact this
          have HCL := Lib.hid hcl; have HCR := Lib.hid hcr
          clear hcl hcr
          go_wp2_with fail
          all_goals
            refine (bclone_any _ _ _ wr (HCL.out _ _ (by first | (intro _; rfl) | (intro h; omega))) (by rw [List.length_take, List.length_drop]; omega)).mono ?_
            rintro e w6 ⟨v6, rfl, b6, x6⟩
            obtain ⟨o6, c6, he6, _⟩ := b6.form
            obtain ⟨n6, hn6⟩ : ∃ k, k = ((rest.drop 4).take m).length := ⟨_, rfl⟩
            rw [← hn6] at he6
            subst he6
            have B6 := Lib.hid b6; have X6 := Lib.hid x6
            clear b6 x6 hn6
            have z6 := X6.out.size
            have zx := HX.out.size
            have hm7 : RecsM (w6.alloc (.cells #[.slice o6 n6 c6] 22)) (fun k => k < w.heap.size) u4 acc us := HM.out.grow ⟨((X6.out.alloc _).mono (fun _ h => h.elim)), fun k hk => .inl hk⟩
            have hb7 : BytR (w6.alloc (.cells #[.slice o6 n6 c6] 22)) (fun k => k < w.heap.size ∨ u4.ownBlock = some k) (.slice o6 n6 c6) ((rest.drop 4).take m) := by
              refine (B6.out.quiet ((Chg.refl _ _).alloc _)).read (fun y hy => HB.out.1 y (List.mem_of_mem_drop (List.mem_of_mem_take hy))) (fun g hg h => ?_)
              have := B6.out.lo g hg
              rcases h with h | h
              · omega
              · have := (HM.out.outB h).1; omega
            have HM7 := Lib.hid hm7; have HB7 := Lib.hid hb7
            clear hm7 hb7
            go_wp2_with (at_builtin; refine recs_app rfl _ _ rfl (fun k => k < w.heap.size) _ acc us rfl HM7.out w6.heap.size (.slice o6 n6 c6) _ rfl hal_new HB7.out ?_ ?_ ?_)
            · omega
            · simp; omega
            · intro v8 w8 m8 x8 n8
              have hx8 : Chg (fun _ => False) w w8 := by
                refine (HX.out.trans (X6.out.alloc _) (fun _ h => .inl h)).trans x8 (fun k hk => .inr ?_)
                have := HM.out.out k hk
                omega
              have hwx : Chg (fun _ => False) wr w8 ∨ True := .inr trivial
              have M8 := Lib.hid m8; have X8 := Lib.hid hx8; have XX8 := Lib.hid x8
              clear m8 hx8 x8 n8 hwx
              go_wp2
              all_goals
                go_roundw
                case rel =>
                  refine ⟨_, _, _, rest.drop (m + 4), acc ++ [(rest.drop 4).take m], _, rfl, ?_, ?_, ?_, M8.out, X8.out, ?_, ?_⟩
                  · refine ((HCR.out _ _ (by first | (intro _; rfl) | (intro h; rw [if_neg (by omega)]) | (intro h; omega))).chg (X6.out.alloc (.cells #[.slice o6 n6 c6] 22)) (fun _ h => h.elim)).chg XX8.out (fun k hk => ?_)
                    have := HM.out.out k hk
                    omega
                  · omega
                  · unfold maxLen; omega
                  · rw [List.length_append, List.length_singleton, List.length_drop]; omega
                  · rw [HE.out, HG.out, Option.map_map]
                    congr 1
                    funext x
                    simp
                case measure => simp; omega
    · have h00 : rest = [] := List.eq_nil_of_length_eq_zero (by omega)
      have HR0 := Lib.hid h00
      clear h00
      go_wp2
      go_ret2
      rw [HE.out, HR0.out]
      exact ⟨⟨_, rfl, by simpa using HM.out.read, HM.out.cap⟩, HX.out⟩
end Go.Proofs.Ytihpobpkhhkejaa
