/-
  The document's book of transactions, told plainly and in memory. No condition beyond each lemma's own.
-/
import Derived.Test.YtkneldeemlngkaaMBook
set_option autoImplicit false
namespace Go.Proofs.Ytkneldeemlngkaa
open Go Go.RowKit

structure TxA where
  st : Int
  seen : List Bool
  old : Bool
structure RBk where
  l : List TxA
  most : Int
def RBk.tx (R : RBk) (t : Int) : TxA := (R.l[t.toNat]?).getD ⟨0, [], false⟩
def RBk.state (R : RBk) (t : Int) : Int := if t < 0 ∨ (R.l.length : Int) ≤ t then 0 else (R.tx t).st
def TxA.saw (x : TxA) (u : Int) : Bool := decide (u < x.seen.length) && (x.seen[u.toNat]?).getD false
def RBk.sees (R : RBk) (t u : Int) : Bool := if R.state t = 0 ∨ R.state u = 0 ∨ (R.tx t).old = true then false else decide (t = u) || (R.tx t).saw u
def RBk.vers (R : RBk) (t m k : Int) : Bool := if R.state t = 0 ∨ (R.tx t).old = true then false else (decide (m = 0) || R.sees t m) && !R.sees t k
def RBk.conc (R : RBk) (t u : Int) : Bool :=
  if t = u ∨ (R.state t ≠ 1 ∧ R.state t ≠ 2) ∨ (R.state u ≠ 1 ∧ R.state u ≠ 2) ∨ (R.tx t).old = true ∨ (R.tx u).old = true then false else !R.sees t u && !R.sees u t
/-- bools that nobody turns any more, in blocks that meet G -/
def SeenAt (w : World) (G : Nat → Prop) (v : Value) (ks : List Bool) : Prop :=
  ∃ ao c, v = .slice ao ks.length c ∧ (0 < ks.length → ∃ b o, ao = some ⟨b, o, none⟩ ∧ b < w.heap.size ∧ G b ∧ ∀ i k, ks[i]? = some k → w.cell? ⟨b, o + i, none⟩ = some (.bool k))
def txC (x : TxA × Value) : List Value := [.int .i64 x.1.st, x.2, .bool x.1.old]
structure RBk.ok (R : RBk) : Prop where
  n1 : 1 ≤ R.l.length
  n2 : (R.l.length : Int) ≤ R.most + 1
  m1 : R.most ≤ 16777216
  seen : ∀ x ∈ R.l, x.seen.length ≤ R.l.length
structure RBookIn (w : World) (r : Nat) (F : Nat → Prop) (R : RBk) (v : Value) (us : List (TxA × Value)) : Prop where
  self : w.heap[r]? = some (.cells #[v, .int .i64 R.most] 49 (0, 0))
  row : w.ownsRow 0 63 3 v us.length (us.flatMap txC)
  isl : R.l = us.map (·.1)
  seen : ∀ x ∈ us, SeenAt w (fun k => F k ∧ k ≠ r ∧ v.ownBlock ≠ some k) x.2 x.1.seen
  fr : F r
  fv : ∀ g, v.ownBlock = some g → F g
  ok : R.ok
def RBookAt (w : World) (r : Nat) (F : Nat → Prop) (R : RBk) : Prop := ∃ v us, RBookIn w r F R v us
theorem txC_one (us : List (TxA × Value)) (h : ∀ x ∈ us, x.2.oneCell' = true) : ∀ u ∈ us.flatMap txC, u.oneCell' = true := by
  intro u hu
  obtain ⟨x, hx, hu⟩ := List.mem_flatMap.1 hu
  simp only [txC, List.mem_cons, List.not_mem_nil, or_false] at hu
  rcases hu with rfl | rfl | rfl
  · rfl
  · exact h x hx
  · rfl
theorem txC_at (us : List (TxA × Value)) (t j : Nat) (x : TxA × Value) (h : us[t]? = some x) (hj : j < 3) : (us.flatMap txC)[t * 3 + j]? = (txC x)[j]? := by
  have := chunk txC 3 us (fun _ _ => rfl) t x h
  rw [← this, List.getElem?_take, if_pos hj, List.getElem?_drop]
theorem txC_len (us : List (TxA × Value)) : (us.flatMap txC).length = us.length * 3 := flatMap_len txC 3 us (fun _ _ => rfl)
theorem SeenAt.chg {w w' : World} {G H : Nat → Prop} {v : Value} {ks : List Bool} (h : SeenAt w G v ks) (x : Chg H w w') (hd : ∀ k, G k → ¬ H k) : SeenAt w' G v ks := by
  obtain ⟨ao, c, rfl, h⟩ := h
  refine ⟨ao, c, rfl, fun hp => ?_⟩
  obtain ⟨b, o, rfl, hb, hg, hc⟩ := h hp
  exact ⟨b, o, rfl, Nat.lt_of_lt_of_le hb x.size, hg, fun i k hi => (cell_of_heap (x.keep b hb (hd b hg))).trans (hc i k hi)⟩
theorem SeenAt.mono {w : World} {G H : Nat → Prop} {v : Value} {ks : List Bool} (h : SeenAt w G v ks) (hd : ∀ k, k < w.heap.size → G k → H k) : SeenAt w H v ks := by
  obtain ⟨ao, c, rfl, h⟩ := h
  refine ⟨ao, c, rfl, fun hp => ?_⟩
  obtain ⟨b, o, rfl, hb, hg, hc⟩ := h hp
  exact ⟨b, o, rfl, hb, hd b hb hg, hc⟩
/-- a cell of the row is turned -/
theorem ownsRow_put {w : World} {e s n g i : Nat} {v u : Value} {xs : List Value} (h : w.ownsRow 0 e s v n xs) (hg : v.ownBlock = some g) : (w.setCell ⟨g, i, none⟩ u).ownsRow 0 e s v n (xs.set i u) := by
  rcases h with ⟨hl, ⟨rfl, h2⟩ | ⟨g', cap, cur, rfl, hb, hh, r1, r2, r3, r4⟩⟩
  · simp [Value.ownBlock] at hg
  · simp [Value.ownBlock] at hg
    subst hg
    refine ⟨by simpa using hl, .inr ⟨g', cap, cur.setIfInBounds i u, rfl, hb, hset_eq hh, r1, r2, by simpa using r3, ?_⟩⟩
    rw [← r4]
    simp [Array.toList_setIfInBounds, List.take_set]
section
variable {w w' : World} {r : Nat} {F G : Nat → Prop} {R : RBk} {v : Value} {us : List (TxA × Value)}
theorem RBookIn.ne (h : RBookIn w r F R v us) : ∀ g, v.ownBlock = some g → g ≠ r := by
  intro g hg e
  subst e
  obtain ⟨cur, hc⟩ := ownsRow_heap h.row hg
  have := h.self
  rw [hc] at this
  simp at this
theorem RBookIn.chg (h : RBookIn w r F R v us) (x : Chg G w w') (hd : ∀ k, F k → ¬ G k) : RBookIn w' r F R v us :=
  ⟨x.heap h.self (hd _ h.fr), ownsRow_chg h.row x (fun g hg => hd g (h.fv g hg)), h.isl, fun y hy => (h.seen y hy).chg x (fun k hk => hd k hk.1), h.fr, h.fv, h.ok⟩
theorem RBookAt.chg (h : RBookAt w r F R) (x : Chg G w w') (hd : ∀ k, F k → ¬ G k) : RBookAt w' r F R := by
  obtain ⟨v, us, h⟩ := h
  exact ⟨v, us, h.chg x hd⟩
theorem RBookAt.quiet (h : RBookAt w r F R) (x : Chg (fun _ => False) w w') : RBookAt w' r F R := h.chg x (fun _ _ h => h)
theorem RBookIn.mono (h : RBookIn w r F R v us) (hG : ∀ k, F k → k < w.heap.size → G k) : RBookIn w r G R v us :=
  ⟨h.self, h.row, h.isl, fun y hy => (h.seen y hy).mono (fun k hk hf => ⟨hG k hf.1 hk, hf.2⟩), hG _ h.fr (lt_of_heap h.self), fun g hg => hG _ (h.fv g hg) (ownsRow_lt h.row hg), h.ok⟩
theorem RBookAt.mono (h : RBookAt w r F R) (hG : ∀ k, F k → k < w.heap.size → G k) : RBookAt w r G R := by
  obtain ⟨v, us, h⟩ := h
  exact ⟨v, us, h.mono hG⟩
theorem RBookAt.ok (h : RBookAt w r F R) : R.ok := by
  obtain ⟨v, us, h⟩ := h
  exact h.ok
/-- what is read of a book -/
theorem RBookIn.read (h : RBookIn w r F R v us) : ∃ g cap, v = .slice (some ⟨g, 0, none⟩) R.l.length cap ∧ w.cell? ⟨r, 0, none⟩ = some v ∧ w.cell? ⟨r, 1, none⟩ = some (.int .i64 R.most) ∧
    ∀ t : Nat, t < R.l.length → ∃ sv, w.cell? ⟨g, t * 3, none⟩ = some (.int .i64 (R.tx t).st) ∧ w.cell? ⟨g, t * 3 + 1, none⟩ = some sv ∧ w.cell? ⟨g, t * 3 + 2, none⟩ = some (.bool (R.tx t).old) ∧
      SeenAt w (fun k => F k ∧ k ≠ r ∧ v.ownBlock ≠ some k) sv (R.tx t).seen ∧ (R.tx t).seen.length ≤ R.l.length := by
  have hl : us.length = R.l.length := by rw [h.isl, List.length_map]
  have h1 := h.ok.n1
  obtain ⟨ao, cap, hv, hf⟩ := ownsRow_form h.row
  obtain ⟨g, rfl⟩ := hf (by omega)
  refine ⟨g, cap, by rw [hv, hl], cell_of_row w r 0 _ _ _ h.self, cell_of_row w r 1 _ _ _ h.self, fun t ht => ?_⟩
  have hu : us[t]? = some (us[t]'(by omega)) := List.getElem?_eq_getElem (by omega)
  have htx : R.tx t = (us[t]'(by omega)).1 := by
    unfold RBk.tx
    rw [h.isl, Int.toNat_natCast, List.getElem?_map, hu]
    rfl
  have hm : us[t]'(by omega) ∈ us := List.getElem_mem _
  have hrow := h.row
  rw [hv] at hrow
  have at_ : ∀ j u, j < 3 → (txC (us[t]'(by omega)))[j]? = some u → w.cell? ⟨g, t * 3 + j, none⟩ = some u := fun j u hj hu2 => by
    have := hrow.cells (g := g) rfl (t * 3 + j) u (by rw [txC_at us t j _ hu hj, hu2])
    rw [Addr.add_mid] at this
    simpa using this
  refine ⟨(us[t]'(by omega)).2, ?_, at_ 1 _ (by omega) rfl, ?_, ?_, ?_⟩
  · rw [htx]; exact at_ 0 _ (by omega) rfl
  · rw [htx]; exact at_ 2 _ (by omega) rfl
  · rw [htx]; exact h.seen _ hm
  · refine h.ok.seen _ ?_
    rw [htx, h.isl]
    exact List.mem_map.2 ⟨_, hm, rfl⟩
theorem RBookIn.free (h : RBookIn w r F R v us) (o : Nat) : w.frozen? ⟨r, o, none⟩ = false := frozen_of_row w r o _ _ h.self
theorem RBk.tx_state (t : Int) (h0 : 0 ≤ t) (h1 : t < R.l.length) : R.state t = (R.tx t).st := by
  unfold RBk.state
  rw [if_neg (by omega)]
theorem RBk.state_in {t : Int} (h : R.state t ≠ 0) : 0 ≤ t ∧ t < R.l.length := by
  unfold RBk.state at h
  split at h
  · exact absurd rfl h
  · omega
theorem flat_set : ∀ (us : List (TxA × Value)) (k : Nat) (x : TxA × Value) (s : Int), us[k]? = some x → (us.flatMap txC).set (k * 3) (.int .i64 s) = (us.set k ({ x.1 with st := s }, x.2)).flatMap txC
  | [], _, _, _, h => by simp at h
  | y :: us, 0, x, s, h => by
    simp at h
    subst h
    rfl
  | y :: us, k + 1, x, s, h => by
    have ih := flat_set us k x s (by simpa using h)
    rw [List.flatMap_cons, List.set_cons_succ, List.flatMap_cons, ← ih, List.set_append_right _ _ (by simp [txC]; omega)]
    congr 2
    simp [txC]; omega
/-- one of them has ended -/
theorem RBookIn.ended (h : RBookIn w r F R v us) {g : Nat} (hg : v.ownBlock = some g) {k : Nat} (hk : k < R.l.length) (s : Int) :
    RBookAt (w.setCell ⟨g, k * 3, none⟩ (.int .i64 s)) r F { R with l := R.l.set k { R.tx k with st := s } } ∧ Chg F w (w.setCell ⟨g, k * 3, none⟩ (.int .i64 s)) := by
  have hl : us.length = R.l.length := by rw [h.isl, List.length_map]
  have hu : us[k]? = some (us[k]'(by omega)) := List.getElem?_eq_getElem (by omega)
  have htx : R.tx k = (us[k]'(by omega)).1 := by
    unfold RBk.tx
    rw [h.isl, Int.toNat_natCast, List.getElem?_map, hu]
    rfl
  have hm : us[k]'(by omega) ∈ us := List.getElem_mem _
  have hgr := h.ne g hg
  have c : Chg (fun q => q = g) w (w.setCell ⟨g, k * 3, none⟩ (.int .i64 s)) := (Chg.refl (fun q => q = g) w).setCell (p := ⟨g, k * 3, none⟩) (.inl rfl) _
  refine ⟨⟨v, us.set k ({ (us[k]'(by omega)).1 with st := s }, (us[k]'(by omega)).2), c.heap h.self (fun e => hgr e.symm), ?_, ?_, fun x hx => ?_, h.fr, h.fv, ?_⟩, c.mono (fun q hq => .inl (by rw [hq]; exact h.fv g hg))⟩
  · have := ownsRow_put (i := k * 3) (u := .int .i64 s) h.row hg
    rw [flat_set us k _ s hu] at this
    rw [List.length_set]
    exact this
  · show R.l.set k _ = _
    rw [List.map_set, ← h.isl, htx]
  · have hs : SeenAt w (fun k => F k ∧ k ≠ r ∧ v.ownBlock ≠ some k) x.2 x.1.seen := by
      rcases List.mem_or_eq_of_mem_set hx with hx2 | rfl
      · exact h.seen x hx2
      · exact h.seen (us[k]'(by omega)) hm
    exact hs.chg c (fun q hq e => hq.2.2 (by rw [e]; exact hg))
  · have ho := h.ok
    refine ⟨by simpa using ho.n1, by simpa using ho.n2, ho.m1, fun x hx => ?_⟩
    show x.seen.length ≤ (R.l.set k _).length
    rw [List.length_set]
    rcases List.mem_or_eq_of_mem_set (show x ∈ R.l.set k _ from hx) with hx2 | rfl
    · exact ho.seen x hx2
    · refine ho.seen (R.tx k) ?_
      rw [htx, h.isl]
      exact List.mem_map.2 ⟨_, hm, rfl⟩
/-- one more is put behind the others -/
theorem RBookIn.pushed {w0 w1 w2 : World} {v' sv : Value} {x : TxA} (h : RBookIn w1 r F R v us) (hr0 : r < w0.heap.size) (hv0 : ∀ g, v.ownBlock = some g → g < w0.heap.size) (h01 : w0.heap.size ≤ w1.heap.size)
    (hsv : SeenAt w1 (fun k => w0.heap.size ≤ k) sv x.seen) (hrow : w2.ownsRow 0 63 3 v' (us.length + 1) (us.flatMap txC ++ txC (x, sv))) (hgr : w1.grownBy w2 v.ownBlock) (hv' : v'.ownBlock = v.ownBlock ∨ v'.ownBlock = some w1.heap.size)
    (hmx : (R.l.length : Int) + 1 ≤ R.most + 1) (hlen : x.seen.length ≤ R.l.length + 1) :
    RBookIn (w2.setCell ⟨r, 0, none⟩ v') r (Ext F w0 w2) { R with l := R.l ++ [x] } v' (us ++ [(x, sv)]) ∧ Chg F w1 (w2.setCell ⟨r, 0, none⟩ v') := by
  have hl : us.length = R.l.length := by rw [h.isl, List.length_map]
  have c12 : Chg F w1 w2 := (Chg.refl F w1).grown hgr (fun k hk => .inl (h.fv k hk))
  have c12v : Chg (fun q => v.ownBlock = some q) w1 w2 := (Chg.refl (fun q => v.ownBlock = some q) w1).grown hgr (fun k hk => .inl hk)
  have c23 : Chg (fun q => q = r) w2 (w2.setCell ⟨r, 0, none⟩ v') := (Chg.refl (fun q => q = r) w2).setCell (p := ⟨r, 0, none⟩) (.inl rfl) _
  have hr1 := lt_of_heap h.self
  have hnew : ∀ g, v'.ownBlock = some g → g ≠ r ∧ g < w2.heap.size := fun g hg => by
    refine ⟨?_, ownsRow_lt hrow hg⟩
    rcases hv' with h1 | h1
    · exact h.ne g (h1 ▸ hg)
    · rw [h1] at hg
      have := Option.some.inj hg
      omega
  have hF2 : ∀ g, v'.ownBlock = some g → Ext F w0 w2 g := fun g hg => by
    rcases hv' with h1 | h1
    · exact .inl (h.fv g (h1 ▸ hg))
    · rw [h1] at hg
      have h2 := Option.some.inj hg
      exact .inr ⟨by omega, by have := (hnew g (by rw [h1]; exact hg)).2; omega⟩
  refine ⟨⟨?_, ?_, ?_, fun y hy => ?_, .inl h.fr, hF2, ?_⟩, c12.trans c23 (fun q hq => .inl (by rw [hq]; exact h.fr))⟩
  · have h1 := c12v.heap h.self (fun e => h.ne r e rfl)
    rw [hset_eq h1]
    rfl
  · have h1 := ownsRow_chg hrow c23 (fun g hg => (hnew g hg).1)
    rw [List.flatMap_append, List.length_append]
    simpa using h1
  · show R.l ++ [x] = _
    rw [List.map_append, h.isl]
    rfl
  · rcases List.mem_append.1 hy with hy2 | hy2
    · have h1 := (h.seen y hy2).mono (H := fun k => (F k ∧ k ≠ r ∧ v.ownBlock ≠ some k) ∧ k < w1.heap.size) (fun k hk h => ⟨h, hk⟩)
      have h2 := (h1.chg c12v (fun k hk e => hk.1.2.2 e)).chg c23 (fun k hk e => hk.1.2.1 e)
      refine h2.mono (fun k hkl hk => ⟨.inl hk.1.1, hk.1.2.1, fun e => ?_⟩)
      rcases hv' with h3 | h3
      · exact hk.1.2.2 (h3 ▸ e)
      · rw [h3] at e
        have h5 := Option.some.inj e
        have := hk.2
        omega
    · rw [List.mem_singleton.1 hy2]
      have h2 := (hsv.mono (H := fun k => w0.heap.size ≤ k ∧ k < w1.heap.size) (fun k hk h => ⟨h, hk⟩))
      have h3 := (h2.chg c12v (fun k hk e => by have := hv0 k e; omega)).chg c23 (fun k hk e => by omega)
      refine h3.mono (fun k hkl hk => ⟨.inr ⟨hk.1, by have := c12.size; omega⟩, by omega, fun e => ?_⟩)
      rcases hv' with h4 | h4
      · have := hv0 k (h4 ▸ e); omega
      · rw [h4] at e
        have := Option.some.inj e
        omega
  · have ho := h.ok
    refine ⟨by simp, by simp; omega, ho.m1, fun y hy => ?_⟩
    show y.seen.length ≤ (R.l ++ [x]).length
    rw [List.length_append]
    rcases List.mem_append.1 (show y ∈ R.l ++ [x] from hy) with hy2 | hy2
    · have := ho.seen y hy2; simp; omega
    · rw [List.mem_singleton.1 hy2]; simpa using hlen
end
end Go.Proofs.Ytkneldeemlngkaa
