/-
  Lists of rows of values. No condition beyond each lemma's own.
  Rows: the least error, the answer, a row's clone. No condition beyond each lemma's own.
  Rows: Filter. Conditions: the rows are at most 1000, each right; the tree is one that is bound, of type Bool or NULL.
-/
import Derived.Test.YtnbckfkdmkbopaaGreatDoorTH04
import Derived.Test.YtnbckfkdmkbopaaGreatDoorTH43
set_option autoImplicit false
namespace Go.Proofs.YtnbckfkdmkbopaaGreatDoor
open Go Go.RowKit

def RowsEach (w : World) (F : Nat → Prop) (rows : List (List Val)) (us : List Value) : Prop := us.length = rows.length ∧ ∀ (i : Nat) (r : List Val) (u : Value), rows[i]? = some r → us[i]? = some u → ValsAt w F u r
def RowsAt (w : World) (F : Nat → Prop) (v : Value) (rows : List (List Val)) : Prop := ∃ us, RowsEach w F rows us ∧ RowAt w F v rows.length us
theorem RowsEach.chg {w w' : World} {F G : Nat → Prop} {rows : List (List Val)} {us : List Value} (h : RowsEach w F rows us) (c : Chg G w w') (hd : ∀ k, F k → ¬ G k) : RowsEach w' F rows us := ⟨h.1, fun i t u ht hu => RowAt.chg (h.2 i t u ht hu) c hd⟩
theorem RowsEach.mono {w : World} {F G : Nat → Prop} {rows : List (List Val)} {us : List Value} (h : RowsEach w F rows us) (hG : ∀ k, F k → k < w.heap.size → G k) : RowsEach w G rows us := ⟨h.1, fun i t u ht hu => RowAt.mono (h.2 i t u ht hu) hG⟩
theorem RowsAt.chg {w w' : World} {F G : Nat → Prop} {v : Value} {ts : List (List Val)} (h : RowsAt w F v ts) (c : Chg G w w') (hd : ∀ k, F k → ¬ G k) : RowsAt w' F v ts := by
  obtain ⟨us, h1, h2⟩ := h
  exact ⟨us, h1.chg c hd, h2.chg c hd⟩
theorem RowsAt.quiet {w w' : World} {F : Nat → Prop} {v : Value} {ts : List (List Val)} (h : RowsAt w F v ts) (c : Chg NoB w w') : RowsAt w' F v ts := h.chg c (fun _ _ h => h)
theorem RowsAt.mono {w : World} {F G : Nat → Prop} {v : Value} {ts : List (List Val)} (h : RowsAt w F v ts) (hG : ∀ k, F k → k < w.heap.size → G k) : RowsAt w G v ts := by
  obtain ⟨us, h1, h2⟩ := h
  exact ⟨us, h1.mono hG, h2.mono hG⟩
theorem RowsAt.form {w : World} {F : Nat → Prop} {v : Value} {ts : List (List Val)} (h : RowsAt w F v ts) : ∃ ao c, v = .slice ao ts.length c := by
  obtain ⟨us, _, ao, c, rfl, _⟩ := h
  exact ⟨ao, c, rfl⟩
theorem RowsAt.nil (w : World) (F : Nat → Prop) (ao : Option Addr) (c : Nat) : RowsAt w F (.slice ao 0 c) [] := ⟨[], ⟨rfl, fun i r u hr _ => by simp at hr⟩, RowAt.nil _ _ _ _⟩
/-- row number i: its header, and where it lies -/
theorem RowsAt.row {w : World} {F : Nat → Prop} {ao : Option Addr} {n c : Nat} {rows : List (List Val)} (h : RowsAt w F (.slice ao n c) rows) {i : Nat} {r : List Val} (hi : rows[i]? = some r) :
    ∃ b o ao2 c2, ao = some ⟨b, o, none⟩ ∧ b < w.heap.size ∧ F b ∧ w.cell? ⟨b, o + i, none⟩ = some (.slice ao2 r.length c2) ∧ ValsAt w F (.slice ao2 r.length c2) r := by
  obtain ⟨us, ⟨hl, he⟩, ao', cap', hv', hp⟩ := h
  simp only [Value.slice.injEq] at hv'
  obtain ⟨rfl, _, rfl⟩ := hv'
  have hlt := (List.getElem?_eq_some_iff.1 hi).1
  obtain ⟨b, o, rfl, hb, hf, hr⟩ := hp (by omega)
  obtain ⟨u, hu⟩ : ∃ u, us[i]? = some u := ⟨_, List.getElem?_eq_getElem (by omega)⟩
  have h1 := he i r u hi hu
  have h2 := hr i u hu
  obtain ⟨ao2, c2, rfl, _⟩ := id h1
  exact ⟨b, o, ao2, c2, rfl, hb, hf, h2, h1⟩
theorem RowsEach.app {w : World} {F : Nat → Prop} {rows : List (List Val)} {us : List Value} (h : RowsEach w F rows us) {r : List Val} {u : Value} (hu : ValsAt w F u r) : RowsEach w F (rows ++ [r]) (us ++ [u]) := by
  refine ⟨by simp [h.1], fun i s v hs hv => ?_⟩
  by_cases hi : i < rows.length
  · rw [List.getElem?_append_left hi] at hs
    rw [List.getElem?_append_left (by rw [h.1]; exact hi)] at hv
    exact h.2 i s v hs hv
  · have hi2 : i = rows.length := by
      have := (List.getElem?_eq_some_iff.1 hs).1
      simp at this; omega
    subst hi2
    rw [List.getElem?_append_right (Nat.le_refl _)] at hs
    rw [List.getElem?_append_right (by rw [h.1]; exact Nat.le_refl _)] at hv
    rw [h.1] at hv
    simp at hs hv
    subst hs; subst hv
    exact hu
/-- a list of rows that a call is making: the rows lie in blocks of F, the list in a block of its own from B on -/
def Rws (w : World) (F : Nat → Prop) (B : Nat) (s : Value) (rows : List (List Val)) : Prop := ∃ us, Own 41 1 w B s rows.length us ∧ RowsEach w (fun g => F g ∧ s.ownBlock ≠ some g) rows us
theorem Rws.nil (w : World) (F : Nat → Prop) (B : Nat) : Rws w F B (.slice none 0 0) [] := ⟨[], Own.nil _ _ _ _, rfl, fun i r u hr _ => by simp at hr⟩
theorem Rws.chg {w w' : World} {F G : Nat → Prop} {B : Nat} {s : Value} {rows : List (List Val)} (h : Rws w F B s rows) (c : Chg G w w') (hF : ∀ g, F g → ¬ G g) (hG : ∀ g, B ≤ g → ¬ G g) : Rws w' F B s rows := by
  obtain ⟨us, h1, h2⟩ := h
  exact ⟨us, h1.chg c (fun g hg => hG g (h1.lo g hg)), h2.chg c (fun k hk => hF k hk.1)⟩
theorem Rws.quiet {w w' : World} {F : Nat → Prop} {B : Nat} {s : Value} {rows : List (List Val)} (h : Rws w F B s rows) (c : Chg NoB w w') : Rws w' F B s rows := h.chg c (fun _ _ h => h) (fun _ _ h => h)
theorem Rws.form {w : World} {F : Nat → Prop} {B : Nat} {s : Value} {rows : List (List Val)} (h : Rws w F B s rows) : ∃ ao c, s = .slice ao rows.length c := by
  obtain ⟨us, h1, _⟩ := h
  obtain ⟨ao, c, rfl, _⟩ := h1.form
  exact ⟨ao, c, rfl⟩
theorem Rws.own {w : World} {F : Nat → Prop} {B : Nat} {s : Value} {rows : List (List Val)} (h : Rws w F B s rows) {g : Nat} (hg : s.ownBlock = some g) : B ≤ g ∧ g < w.heap.size := by
  obtain ⟨us, h1, _⟩ := h
  exact ⟨h1.lo g hg, h1.lt hg⟩
theorem Rws.read {w : World} {F : Nat → Prop} {B : Nat} {s : Value} {rows : List (List Val)} (h : Rws w F B s rows) : RowsAt w (fun g => F g ∨ B ≤ g) s rows := by
  obtain ⟨us, h1, h2⟩ := h
  exact ⟨us, h2.mono (fun k hk _ => .inl hk.1), RowAt.mono h1.read (fun k hk _ => .inr hk)⟩
/-- one row more -/
theorem rws_wp {o : Oper} {a : Act} {K : Act → World → Prop} {Q : Exit → Act → World → Prop} {w : World} (s x : Operand) (ho : o.op = .call { callee := .builtin .append, args := #[s, x], argTypes := #[22, 22] })
    (F : Nat → Prop) (B : Nat) (v : Value) (rows : List (List Val)) (n : Nat) (hn : rows.length = n) (hs : a.eval s = v) (h : Rws w F B v rows) (blk : Nat) (u : Value) (r : List Val) (hx : a.eval x = .slice (some ⟨blk, 0, none⟩) 1 1) (hb : w.heap[blk]? = some (.cells #[u] 41 (0, 0)))
    (hu : ValsAt w (fun g => F g ∧ v.ownBlock ≠ some g) u r) (hlen : n ≤ 1000000) (hlo : B ≤ w.heap.size)
    (k : ∀ ao c w', Rws w' F B (.slice ao (n + 1) c) (rows ++ [r]) → Chg (fun g => v.ownBlock = some g) w w' → (∀ g, (Value.slice ao (n + 1) c).ownBlock = some g → v.ownBlock = some g ∨ g = w.heap.size) → K (a.put o.dst (.slice ao (n + 1) c)) w') : o.wp Tryz.prog a w K Q := by
  subst hn
  obtain ⟨us, h1, h2⟩ := h
  refine own_wp row_ok s x ho B v rows.length us hs h1 (fun _ => True) _ 1 [u] hx (row_one hb trivial) rfl ?_ (by unfold maxLen; omega) (by omega) hlo ?_
  · intro y hy
    obtain ⟨ao, c, rfl, _⟩ := hu
    simp at hy
    subst hy
    rfl
  · intro v' w' o1 c1 hat
    obtain ⟨ao, c, rfl, _⟩ := o1.form
    refine k ao c w' ⟨us ++ [u], by rw [List.length_append]; exact o1, ?_⟩ c1 hat
    refine ((h2.mono (G := fun g => (F g ∧ v.ownBlock ≠ some g) ∧ g < w.heap.size) (fun g hg hl => ⟨hg, hl⟩)).app (RowAt.mono hu (fun g hg hl => ⟨hg, hl⟩))).chg c1 (fun g hg h => hg.1.2 h) |>.mono ?_
    intro g hg _
    refine ⟨hg.1.1, fun h5 => ?_⟩
    rcases hat g h5 with h | h
    · exact hg.1.2 h
    · have := hg.2; omega
theorem rws_app {ops : Array Oper} {rest : List Oper} {o : Oper} {a : Act} {Q : Exit → Act → World → Prop} {w : World} (hgd : o.guard = none) (s x : Operand) (ho : o.op = .call { callee := .builtin .append, args := #[s, x], argTypes := #[22, 22] })
    (F : Nat → Prop) (B : Nat) (v : Value) (rows : List (List Val)) (n : Nat) (hn : rows.length = n) (hs : a.eval s = v) (h : Rws w F B v rows) (blk : Nat) (u : Value) (r : List Val) (hx : a.eval x = .slice (some ⟨blk, 0, none⟩) 1 1) (hb : w.heap[blk]? = some (.cells #[u] 41 (0, 0)))
    (hu : ValsAt w (fun g => F g ∧ v.ownBlock ≠ some g) u r) (hlen : n ≤ 1000000) (hlo : B ≤ w.heap.size)
    (k : ∀ ao c w', Rws w' F B (.slice ao (n + 1) c) (rows ++ [r]) → Chg (fun g => v.ownBlock = some g) w w' → (∀ g, (Value.slice ao (n + 1) c).ownBlock = some g → v.ownBlock = some g ∨ g = w.heap.size) → wpList Tryz.prog ops Q rest (a.put o.dst (.slice ao (n + 1) c)) w') : wpList Tryz.prog ops Q (o :: rest) a w :=
  wpList_plain hgd fun _ hK => rws_wp s x ho F B v rows n hn hs h blk u r hx hb hu hlen hlo fun ao c w' x y z => hK _ _ (k ao c w' x y z)
end Go.Proofs.YtnbckfkdmkbopaaGreatDoor

set_option autoImplicit false
namespace Go.Proofs.YtnbckfkdmkbopaaGreatDoor
open Go Go.RowKit

def seeE (l e : Int) : Int := if e = 0 then l else if l = 0 ∨ e < l then e else l
theorem see_any (p : Nat) (l e : Int) (w : World) (h : w.heap[p]? = some (.cells #[.int .i64 l] 81 (0, 0))) : Calls Tryz.prog 29 #[.pointer (some ⟨p, 0, none⟩), .int .i64 e] w fun x w' => x = .returned (.tuple #[]) ∧ Hid (w'.heap[p]? = some (.cells #[.int .i64 (seeE l e)] 81 (0, 0)) ∧ Chg (OneP p) w w') := by
  have c0 : w.cell? ⟨p, 0, none⟩ = some (.int .i64 l) := cell_of_row w p 0 _ _ _ h
  have f0 : w.frozen? ⟨p, 0, none⟩ = false := frozen_of_row w p 0 _ _ h
  have H := Lib.hid h
  clear h
  have HN : Hid (w.heap[p]? = some (.cells #[.int .i64 l] 81 (0, 0)) ∧ Chg (OneP p) w w) := Lib.hid ⟨H.out, Chg.refl _ _⟩
  have HY : Hid ((w.setCell ⟨p, 0, none⟩ (.int .i64 e)).heap[p]? = some (.cells #[.int .i64 e] 81 (0, 0)) ∧ Chg (OneP p) w (w.setCell ⟨p, 0, none⟩ (.int .i64 e))) := Lib.hid ⟨hset_eq (i := 0) (v := .int .i64 e) H.out, (Chg.refl (OneP p) w).setCell (p := ⟨p, 0, none⟩) (.inl rfl) _⟩
  by_cases he : e = 0
  · have hs : seeE l e = l := by simp [seeE, he]
    have b1 : (e != 0) = false := by simp [he]
    rw [hs]
    clear he hs
    go_enter Tryz.func29, Tryz.ntmps29
    go_wp2
    go_end0
    exact ⟨rfl, HN⟩
  · have b1 : (e != 0) = true := by simpa using he
    by_cases hl : l = 0
    · have hs : seeE l e = e := by simp [seeE, he, hl]
      have b2 : (l == 0) = true := by simp [hl]
      rw [hs]
      clear he hs hl
      go_enter Tryz.func29, Tryz.ntmps29
      go_wp2
      go_end0
      exact ⟨rfl, HY⟩
    · have b2 : (l == 0) = false := by simpa using hl
      by_cases hlt : e < l
      · have hs : seeE l e = e := by simp [seeE, he, hlt]
        have b3 : decide (e < l) = true := by simpa using hlt
        rw [hs]
        clear he hs hl hlt
        go_enter Tryz.func29, Tryz.ntmps29
        go_wp2
        go_end0
        exact ⟨rfl, HY⟩
      · have hs : seeE l e = l := by simp [seeE, he, hlt, hl]
        have b3 : decide (e < l) = false := by simpa using hlt
        rw [hs]
        clear he hs hl hlt
        go_enter Tryz.func29, Tryz.ntmps29
        go_wp2
        go_end0
        exact ⟨rfl, HN⟩
theorem answer_any (l : Int) (ao : Option Addr) (n c : Nat) (hn : n ≤ 10000) (w : World) : Calls Tryz.prog 31 #[.int .i64 l, .slice ao n c] w fun e w' => e = .returned (.tuple #[if l = 0 then .slice ao n c else nilS, .int .i64 l]) ∧ w = w' := by
  have hi : (n : Int) ≤ 10000 := by omega
  by_cases hl : l = 0
  · subst hl
    go_enter Tryz.func31, Tryz.ntmps31
    go_wp2
    go_ret2
    exact ⟨rfl, rfl⟩
  · have b1 : (l != 0) = true := by simpa using hl
    rw [if_neg hl]
    clear hl
    go_enter Tryz.func31, Tryz.ntmps31
    go_wp2
    go_ret2
    exact ⟨rfl, rfl⟩
/-- what a clone is -/
def ClOut (r : List Val) (w : World) (e : Ending) (w' : World) : Prop := ∃ ao c, e = .returned (.slice ao r.length c) ∧ ValsAt w' (fun k => w.heap.size ≤ k) (.slice ao r.length c) r ∧ Chg NoB w w'
set_option maxHeartbeats 1000000 in
theorem cloneV_any (r : List Val) (F : Nat → Prop) (a : Addr) (cap : Nat) (hm : r.length ≤ 1000000) (w : World) (hv : ValsAt w F (.slice (some a) r.length cap) r) : Calls Tryz.prog 30 #[.slice (some a) r.length cap] w (ClOut r w) := by
  have hq := fun w => Lib.run_eql_slice_nil (P := Tryz.prog) w 41 _ (some a) r.length cap 0 0 Tryz.underlying41
  have HV : Hid (ValsAt (w.alloc (.cells #[] 26)) F (.slice (some a) r.length cap) r) := Lib.hid (RowAt.quiet hv ((Chg.refl _ _).alloc _))
  have HO : Hid (Own 26 3 (w.alloc (.cells #[] 26)) w.heap.size (.slice (some ⟨w.heap.size, 0, none⟩) 0 0) 0 []) := Lib.hid ⟨World.ownsRow_made w #[] 0 (Nat.zero_le _) (Nat.zero_le _) (by simp), fun g hg => by simp [Value.ownBlock] at hg; omega⟩
  clear hv
  go_enter Tryz.func30, Tryz.ntmps30
  go_wp2_with (at_builtin; refine own_app val_ok rfl _ _ rfl w.heap.size _ 0 [] rfl HO.out F _ r.length (valCells r) rfl HV.out (valCells_len r) (valCells_one r) ?_ ?_ ?_ ?_)
  · unfold maxLen; omega
  · omega
  · simp
  · intro v' w1 r1 g1 hat
    obtain ⟨ao1, c1, rfl, _⟩ := r1.form
    have R1 := Lib.hid r1.read
    have C1 : Hid (Chg NoB w w1) := Lib.hid ((((Chg.refl (fun k => w.heap.size ≤ k) w).alloc _).trans g1 (fun x hx => by simp [Value.ownBlock] at hx; omega)).mono (fun x hx => .inr hx))
    clear r1 g1 hat
    go_wp2
    go_ret
    exact ⟨_, _, rfl, R1.out, C1.out⟩
end Go.Proofs.YtnbckfkdmkbopaaGreatDoor

set_option autoImplicit false
namespace Go.Proofs.YtnbckfkdmkbopaaGreatDoor
open Go Go.RowKit

def filtOut (y : Ex) (rows : List (List Val)) : List (List Val) := rows.filter fun r => (holdsV r y).1
def filtErr (y : Ex) (rows : List (List Val)) : Int := rows.foldl (fun l r => seeE l (holdsV r y).2) 0
def filtRes (y : Ex) (rows : List (List Val)) : List (List Val) := if filtErr y rows = 0 then filtOut y rows else []
theorem filtOut_len (y : Ex) (rows : List (List Val)) : (filtOut y rows).length ≤ rows.length := List.length_filter_le _ _
theorem filtOut_snoc (y : Ex) (rows : List (List Val)) (r : List Val) : filtOut y (rows ++ [r]) = filtOut y rows ++ (if (holdsV r y).1 then [r] else []) := by
  unfold filtOut
  rw [List.filter_append]
  cases h : (holdsV r y).1 <;> simp [h]
theorem filtErr_snoc (y : Ex) (rows : List (List Val)) (r : List Val) : filtErr y (rows ++ [r]) = seeE (filtErr y rows) (holdsV r y).2 := by simp [filtErr]
def FlOut (y : Ex) (rows : List (List Val)) (w : World) (e : Ending) (w' : World) : Prop := Chg NoB w w' ∧ ∃ v, e = .returned (.tuple #[v, .int .i64 (filtErr y rows)]) ∧ RowsAt w' (fun k => w.heap.size ≤ k) v (filtRes y rows)
/-- what a round of Filter's loop leaves -/
structure FInv (w : World) (y : Ex) (E : ExF) (rows : List (List Val)) (j : Nat) (v : Value) (wr : World) : Prop where
  c : Chg NoB w wr
  box : wr.heap[w.heap.size]? = some E.obj
  least : wr.heap[w.heap.size + 1]? = some (.cells #[.int .i64 (filtErr y (rows.take j))] 81 (0, 0))
  out : Rws wr (fun g => w.heap.size + 1 + 1 ≤ g) (w.heap.size + 1 + 1) v (filtOut y (rows.take j))
theorem FInv.quiet {w : World} {y : Ex} {E : ExF} {rows : List (List Val)} {j : Nat} {v : Value} {wr w' : World} (h : FInv w y E rows j v wr) (c : Chg NoB wr w') : FInv w y E rows j v w' :=
  ⟨h.c.trans c (fun _ h => .inl h), c.heap h.box (fun h => h), c.heap h.least (fun h => h), h.out.quiet c⟩
set_option maxRecDepth 100000 in
set_option maxHeartbeats 4000000 in
theorem filter_any (cs : List Bcol) (hcs : 0 < cs.length) (hcs2 : cs.length ≤ 1000000) (rows : List (List Val)) (hm : rows.length ≤ 1000) (hrows : ∀ r ∈ rows, rowOk cs r) (y : Ex) (t : Int) (ht : tyL cs y = some t) (ht2 : t = 2 ∨ t = 0) (E : ExF) (F G : Nat → Prop) (ao : Option Addr) (cap : Nat) (w : World)
    (hx : ExAt w F y E) (h : RowsAt w G (.slice ao rows.length cap) rows) : Calls Tryz.prog 11 #[.slice ao rows.length cap, E.val] w (FlOut y rows w) := by
  have HH : Hid (∀ (r : List Val) (W : World) (a : Option Addr) (c : Nat) (K : Nat → Prop), r ∈ rows → Chg NoB w W → ValsAt W K (.slice a r.length c) r → Calls Tryz.prog 15 #[E.val, .slice a r.length c] W fun e w' => e = .returned (.tuple #[.bool (holdsV r y).1, .int .i64 (holdsV r y).2]) ∧ Chg NoB W w') := Lib.hid fun r W a c K hr hc hv =>
    holds_any cs r (hrows r hr) a c y t ht ht2 E F K W (ExAt.quiet hc hx) hv
  have HL : Hid (∀ r ∈ rows, 0 < r.length ∧ r.length ≤ 1000000) := Lib.hid fun r hr => by have := (hrows r hr).1; omega
  have H := Lib.hid (h.mono (G := fun g => g < w.heap.size) (fun k _ hl => hl))
  have HI : Hid (FInv w y E rows 0 nilS ((w.alloc E.obj).alloc (.cells #[.int .i64 0] 81))) := Lib.hid ⟨((Chg.refl NoB w).alloc _).alloc _, (hal_old (by simp)).trans hal_new, hal_new' (by simp), Rws.nil _ _ _⟩
  clear h hx ht hrows
  go_enter Tryz.func11, Tryz.ntmps11
  go_wp2_with fail
  go_loopw [7, 14] (fun v i wr => ∃ j : Nat, i = .int .i64 j ∧ j ≤ rows.length ∧ ∃ u, v = u ∧ Hid (FInv w y E rows j u wr)) (fun _ i _ => (rows.length - intOf i).toNat)
  case atStart => exact ⟨0, rfl, Nat.zero_le _, _, rfl, HI⟩
  case round =>
    obtain ⟨j, rfl, hj, u, rfl, HJ⟩ := hrel
    obtain ⟨uo, uc, hu⟩ := HJ.out.out.form
    subst hu
    have holen : (filtOut y (rows.take j)).length ≤ 1000 := by
      have := filtOut_len y (rows.take j)
      have h2 : (rows.take j).length ≤ rows.length := by rw [List.length_take]; omega
      omega
    obtain ⟨n, hn⟩ : ∃ n, (filtOut y (rows.take j)).length = n := ⟨_, rfl⟩
    have HN := Lib.hid hn
    rw [hn] at HJ holen ⊢
    clear hn
    have hn1 : (n : Int) ≤ 10000 := by omega
    by_cases hlt : j < rows.length
    · obtain ⟨r, hr⟩ : ∃ r, rows[j]? = some r := ⟨_, List.getElem?_eq_getElem hlt⟩
      obtain ⟨b, o, ao2, c2, rfl, hb, _, hc, hv⟩ := (H.out.quiet HJ.out.c).row hr
      have HR := Lib.hid hr
      have HV := Lib.hid hv
      have hmem := List.mem_of_getElem? hr
      have HM := Lib.hid hmem
      obtain ⟨e0, e1, e2, e3, e4, e5, e6, e7⟩ := ExCells.of HJ.out.box
      have HTK : Hid (rows.take (j + 1) = rows.take j ++ [r]) := Lib.hid (by rw [List.take_add_one, hr]; rfl)
      obtain ⟨hl1, hl2⟩ := HL.out r hmem
      clear hr hv hmem
      go_wp2_with fail
      refine (HH.out r _ ao2 c2 _ HM.out HJ.out.c HV.out).mono ?_
      rintro e w2 ⟨rfl, c2'⟩
      have J2 := Lib.hid (HJ.out.quiet c2')
      have V2 := Lib.hid (RowAt.quiet HV.out c2')
      clear c2' e0 e1 e2 e3 e4 e5 e6 e7 hc
      obtain ⟨⟨q, er⟩, hq⟩ : ∃ q, holdsV r y = q := ⟨_, rfl⟩
      have HQ := Lib.hid hq
      rw [hq]
      clear hq
      go_wp2_with fail
      refine (see_any (w.heap.size + 1) _ er w2 J2.out.least).mono ?_
      rintro e w3 ⟨rfl, HSE⟩
      have ls := lt_of_heap J2.out.least
      have J3 : Hid (Chg NoB w w3 ∧ w3.heap[w.heap.size]? = some E.obj ∧ w3.heap[w.heap.size + 1]? = some (.cells #[.int .i64 (filtErr y (rows.take (j + 1)))] 81 (0, 0)) ∧ Rws w3 (fun g => w.heap.size + 1 + 1 ≤ g) (w.heap.size + 1 + 1) (.slice uo n uc) (filtOut y (rows.take j))) := Lib.hid
        ⟨J2.out.c.trans HSE.out.2 (fun q e => .inr (by unfold OneP at e; omega)), HSE.out.2.heap J2.out.box (by unfold OneP; omega), by rw [HTK.out, filtErr_snoc, HQ.out]; exact HSE.out.1, J2.out.out.chg HSE.out.2 (fun g hg e => by unfold OneP at e; omega) (fun g hg e => by unfold OneP at e; omega)⟩
      cases q with
      | false =>
        have HO : Hid (FInv w y E rows (j + 1) (.slice uo n uc) w3) := Lib.hid ⟨J3.out.1, J3.out.2.1, J3.out.2.2.1, by rw [HTK.out, filtOut_snoc, HQ.out]; simpa using J3.out.2.2.2⟩
        go_wp2_with fail
        go_round
        case rel => exact ⟨j + 1, by go_num, by omega, _, rfl, HO⟩
        case measure => simp [intOf]; omega
      | true =>
        have V3 := Lib.hid (RowAt.chg V2.out HSE.out.2 (fun k hk e => by unfold OneP at e; omega))
        obtain ⟨ao', cap', e, hh⟩ := V3.out
        obtain ⟨b3, o3, rfl, _, _, _⟩ := hh hl1
        cases e
        clear hh
        go_wp2_with fail
        refine (cloneV_any r _ _ _ hl2 w3 V3.out).mono ?_
        rintro e w4 ⟨a4, k4, rfl, h4, c4⟩
        have J4 : Hid (Chg NoB w w4 ∧ w4.heap[w.heap.size]? = some E.obj ∧ w4.heap[w.heap.size + 1]? = some (.cells #[.int .i64 (filtErr y (rows.take (j + 1)))] 81 (0, 0)) ∧ Rws w4 (fun g => w.heap.size + 1 + 1 ≤ g) (w.heap.size + 1 + 1) (.slice uo n uc) (filtOut y (rows.take j))) := Lib.hid
          ⟨J3.out.1.trans c4 (fun q e => e.elim), c4.heap J3.out.2.1 (fun h => h), c4.heap J3.out.2.2.1 (fun h => h), J3.out.2.2.2.quiet c4⟩
        have HB4 : Hid (∀ g, (Value.slice uo n uc).ownBlock = some g → g < w3.heap.size) := Lib.hid fun g hg => (J3.out.2.2.2.own hg).2
        have l3 : w.heap.size + 1 + 1 ≤ w3.heap.size := by have := lt_of_heap J3.out.2.2.1; omega
        have H4 : Hid (ValsAt w4 (fun g => w.heap.size + 1 + 1 ≤ g ∧ (Value.slice uo n uc).ownBlock ≠ some g) (.slice a4 r.length k4) r) := Lib.hid (RowAt.mono h4 fun g hg _ => ⟨by omega, fun e => by have := HB4.out g e; omega⟩)
        have s4 := c4.size
        clear h4 c4
        go_wp2_with (at_builtin; refine rws_app rfl _ _ rfl (fun g => w.heap.size + 1 + 1 ≤ g) (w.heap.size + 1 + 1) _ (filtOut y (rows.take j)) n HN.out rfl (Rws.quiet J4.out.2.2.2 ((Chg.refl _ _).alloc _)) w4.heap.size (.slice a4 r.length k4) r rfl hal_new (RowAt.quiet H4.out ((Chg.refl _ _).alloc _)) ?_ ?_ ?_)
        · omega
        · simp; omega
        · intro ao9 c9 w9 r9 x9 _
          have y9 := ((Chg.refl (fun g => (Value.slice uo n uc).ownBlock = some g) w4).alloc (.cells #[.slice a4 r.length k4] 41)).trans x9 (fun k h => .inl h)
          have lo9 : ∀ g, (Value.slice uo n uc).ownBlock = some g → w.heap.size + 1 + 1 ≤ g := fun g hg => (J4.out.2.2.2.own hg).1
          have HO : Hid (FInv w y E rows (j + 1) (.slice ao9 (n + 1) c9) w9) := Lib.hid
            ⟨J4.out.1.trans y9 (fun g e => .inr (by have := lo9 g e; omega)), y9.heap J4.out.2.1 (fun e => by have := lo9 _ e; omega), y9.heap J4.out.2.2.1 (fun e => by have := lo9 _ e; omega), by rw [HTK.out, filtOut_snoc, HQ.out]; exact r9⟩
          clear r9 x9 y9 lo9
          go_wp2_with fail
          go_round
          case rel => exact ⟨j + 1, by go_num, by omega, _, rfl, HO⟩
          case measure => simp [intOf]; omega
    · obtain rfl : j = rows.length := by omega
      have l0 : wr.cell? ⟨w.heap.size + 1, 0, none⟩ = some (.int .i64 (filtErr y (rows.take rows.length))) := cell_of_row wr _ 0 _ _ _ HJ.out.least
      rw [List.take_length] at l0
      obtain ⟨er, her⟩ : ∃ er, filtErr y rows = er := ⟨_, rfl⟩
      have HE := Lib.hid her
      rw [her] at l0
      clear her
      have hq := HJ.out.out
      rw [List.take_length] at hq
      have HQQ := Lib.hid hq
      clear hq
      by_cases h0 : er = 0
      · subst h0
        go_wp2_with fail
        refine (answer_any 0 uo n uc (by omega) wr).mono ?_
        rw [if_pos rfl]
        rintro e w' ⟨rfl, rfl⟩
        go_wp2_with fail
        go_ret2
        refine ⟨HJ.out.c, _, by rw [HE.out]; rfl, ?_⟩
        unfold filtRes
        rw [HE.out, if_pos rfl]
        exact HQQ.out.read.mono fun k hk _ => by omega
      · have HE0 := Lib.hid h0
        clear h0
        go_wp2_with fail
        refine (answer_any er uo n uc (by omega) wr).mono ?_
        rw [if_neg HE0.out]
        rintro e w' ⟨rfl, rfl⟩
        go_wp2_with fail
        go_ret2
        refine ⟨HJ.out.c, _, by rw [HE.out]; rfl, ?_⟩
        unfold filtRes
        rw [HE.out, if_neg HE0.out]
        exact RowsAt.nil _ _ _ _
end Go.Proofs.YtnbckfkdmkbopaaGreatDoor
