/-
  The plain laws of the log: what sectors hold, what a flush leaves wherever the disk goes down, what is read again. No condition beyond each lemma's own.
-/
import Derived.Test.YtihpobpkhhkejaaWOpenB
import Derived.Test.YtihpobpkhhkejaaD3Keeps
import Derived.Test.YtihpobpkhhkejaaD3AllLaw
set_option autoImplicit false
namespace Go.Proofs.Ytihpobpkhhkejaa
open Go Go.RowKit

def frame (r : List Int) : List Int := leN r.length 4 ++ r
def flatF (rs : List (List Int)) : List Int := rs.flatMap frame
def RecsOk (rs : List (List Int)) : Prop := ∀ r ∈ rs, (r.length : Int) < 4294967296 ∧ Bytes r
theorem flatF_snoc (rs : List (List Int)) (r : List Int) : flatF (rs ++ [r]) = flatF rs ++ leN r.length 4 ++ r := by simp [flatF, frame]
theorem frame_len (r : List Int) : (frame r).length = r.length + 4 := by simp [frame]; omega
theorem recsR_frame (r t : List Int) (h : (r.length : Int) < 4294967296) : recsR (frame r ++ t) = (recsR t).map (r :: ·) := by
  have e4 : (frame r ++ t).take 4 = leN r.length 4 := by
    unfold frame
    rw [List.append_assoc, List.take_append_of_le_length (by simp), List.take_of_length_le (by simp)]
  have hn : numOf ((frame r ++ t).take 4) = (r.length : Nat) := by
    rw [e4]
    exact numOf_leN _ 4 (by omega) (by have : (256 : Int) ^ 4 = 4294967296 := (by decide); omega)
  have d4 : (frame r ++ t).drop 4 = r ++ t := by
    unfold frame
    rw [List.append_assoc, List.drop_append, List.drop_of_length_le (by simp)]
    simp
  have hl : (frame r ++ t).length = r.length + 4 + t.length := by rw [List.length_append, frame_len]
  rw [recsR_good (by omega) r.length hn (by omega), d4, List.take_left]
  congr 1
  rw [Nat.add_comm, ← List.drop_drop, d4, List.drop_left]
theorem recsR_flat : ∀ (rs : List (List Int)), RecsOk rs → recsR (flatF rs) = some rs
  | [], _ => rfl
  | r :: rs, h => by
    have e : flatF (r :: rs) = frame r ++ flatF rs := by simp [flatF]
    rw [e, recsR_frame r _ (h r (by simp)).1, recsR_flat rs (fun x hx => h x (by simp [hx]))]
    rfl

/-! what sectors hold -/
def Has (f : Int → Sec) (bs : List Int) : Prop := ∀ (j : Nat) (h : j < bs.length), (f (2 + (j / 64 : Nat)))[j % 64]? = some bs[j]
structure Dur (f : Int → Sec) (c : Int) (P : List Int) : Prop where
  has : Has f P
  c0 : 0 ≤ c
  zero : c = 0 → cntOf (f 0) = 0 ∧ cntOf (f 1) = 0 ∧ P = []
  head : 0 < c → cntOf (f (c % 2)) = c ∧ lenOf (f (c % 2)) = P.length ∧ cntOf (f (1 - c % 2)) < c
theorem Has.take {f : Int → Sec} {bs : List Int} (h : Has f bs) (n : Nat) : Has f (bs.take n) := fun j hj => by
  rw [List.length_take] at hj
  rw [h j (by omega), List.getElem_take]
theorem Has.nil (f : Int → Sec) : Has f [] := fun j hj => by simp at hj
theorem bytes_get (D : Dsk) (h64 : ∀ k, (D.now k).length = 64) : ∀ (k j : Nat), j < k * 64 → (D.bytes 2 k)[j]? = (D.now (2 + (j / 64 : Nat)))[j % 64]?
  | 0, j, h => by omega
  | k + 1, j, h => by
    rw [bytes_snoc]
    have hl := bytes_len D h64 k 2
    by_cases hj : j < k * 64
    · rw [List.getElem?_append_left (by omega), bytes_get D h64 k j hj]
    · rw [List.getElem?_append_right (by omega), hl, show j / 64 = k by omega, show j - k * 64 = j % 64 by omega]
theorem stream_of_has {D : Dsk} (h64 : ∀ k, (D.now k).length = 64) {bs : List Int} (h : Has D.now bs) : D.stream bs.length = bs := by
  have hu : bs.length ≤ upTo bs.length * 64 := by unfold upTo; omega
  unfold Dsk.stream
  apply List.ext_getElem?
  intro j
  rw [List.getElem?_take]
  by_cases hj : j < bs.length
  · rw [if_pos hj, bytes_get D h64 _ j (by omega), h j hj, List.getElem?_eq_getElem hj]
  · rw [if_neg hj, List.getElem?_eq_none (by omega)]
theorem head_of_dur {D : Dsk} {c : Int} {P : List Int} (h : Dur D.now c P) : D.head = (c, (P.length : Int)) := by
  unfold Dsk.head
  by_cases hc : c = 0
  · obtain ⟨h0, h1, rfl⟩ := h.zero hc
    subst hc
    have e0 : pick (0, 0) (D.now 0) = (0, 0) := by unfold pick; rw [if_neg (by rw [h0]; decide)]
    have e1 : pick (0, 0) (D.now 1) = (0, 0) := by unfold pick; rw [if_neg (by rw [h1]; decide)]
    rw [e0, e1]
    rfl
  · have hp : 0 < c := by have := h.c0; omega
    obtain ⟨a1, a2, a3⟩ := h.head hp
    rcases (show c % 2 = 0 ∨ c % 2 = 1 by omega) with e | e
    · rw [e] at a1 a2 a3
      have e1 : pick (0, 0) (D.now 0) = (c, (P.length : Int)) := by unfold pick; rw [if_pos (by show cntOf _ > 0; omega), a1, a2]
      rw [e1]
      unfold pick
      rw [if_neg (by show ¬ cntOf _ > c; have : (1 : Int) - 0 = 1 := rfl; rw [this] at a3; omega)]
    · rw [e] at a1 a2 a3
      have e1 : (pick (0, 0) (D.now 0)).1 < c := by
        unfold pick
        split
        · exact a3
        · exact hp
      conv => lhs; unfold pick
      rw [if_pos (by rw [a1]; exact e1), a1, a2]
theorem open_dur {D : Dsk} (hs : 3 ≤ D.size) (hd : D.down = false) (h64 : ∀ k, (D.now k).length = 64) {c : Int} {rs : List (List Int)} (h : Dur D.now c (flatF rs)) (hf : ((flatF rs).length : Int) ≤ (D.size - 2) * 64) (hr : RecsOk rs) :
    openR D = (0, some ({ cnt := c, len := (flatF rs).length, st := flatF rs, wait := 0 }, rs)) := by
  rw [openR_up hs hd, head_of_dur h, if_neg (by omega)]
  unfold openFin
  simp only [Int.toNat_natCast]
  rw [stream_of_has h64 h.has, recsR_flat rs hr]
theorem dur_new (n : Int) : Dur (Dsk.new n).now 0 (flatF []) := ⟨Has.nil _, Int.le_refl _, fun _ => ⟨(by decide : cntOf sec0 = 0), (by decide : cntOf sec0 = 0), rfl⟩, fun h => by omega⟩

/-! writes -/
theorem secsOf_mem : ∀ (k a : Nat) (bs : List Int) (x : Int × Sec), x ∈ secsOf bs a k ↔ ∃ i : Nat, a ≤ i ∧ i < a + k ∧ x = ((i : Int) + 2, secAt bs i)
  | 0, a, bs, x => by
    simp only [secsOf, List.not_mem_nil, false_iff]
    rintro ⟨i, h1, h2, _⟩; omega
  | k + 1, a, bs, x => by
    simp only [secsOf, List.mem_cons, secsOf_mem k (a + 1) bs x]
    constructor
    · rintro (rfl | ⟨i, h1, h2, rfl⟩)
      · exact ⟨a, Nat.le_refl _, by omega, rfl⟩
      · exact ⟨i, by omega, by omega, rfl⟩
    · rintro ⟨i, h1, h2, rfl⟩
      by_cases hi : i = a
      · exact .inl (by rw [hi])
      · exact .inr ⟨i, by omega, by omega, rfl⟩
theorem secAt_get (bs : List Int) (j : Nat) (h : j < bs.length) : (secAt bs (j / 64))[j % 64]? = some bs[j] := by
  have hl : ((bs.drop (j / 64 * 64)).take 64).length = min 64 (bs.length - j / 64 * 64) := by rw [List.length_take, List.length_drop]
  have h1 : j % 64 < ((bs.drop (j / 64 * 64)).take 64).length := by rw [hl]; omega
  unfold secAt padTo
  rw [List.getElem?_append_left h1, List.getElem?_eq_getElem h1, List.getElem_take, List.getElem_drop]
  congr 2
  omega
theorem keepAll_mem (l : List (Int × Sec)) : ∀ (f : Int → Sec) (x : Int), x ∈ l.map (·.1) → (x, keepAll f l x) ∈ l := by
  induction l with
  | nil => intro f x h; simp at h
  | cons y l ih =>
    intro f x h
    show (x, keepAll (upd f y.1 y.2) l x) ∈ y :: l
    by_cases hx : x ∈ l.map (·.1)
    · exact List.mem_cons_of_mem _ (ih _ x hx)
    · rw [keepAll_not _ _ _ hx]
      simp only [List.map_cons, List.mem_cons, hx, or_false] at h
      unfold upd
      rw [if_pos h, h]
      exact List.mem_cons_self
theorem keepTo_mem (f : Int → Sec) (l : List (Int × Sec)) (ks : List Bool) (x : Int) : ∀ k, keepTo f l ks k x = f x ∨ (x, keepTo f l ks k x) ∈ l
  | 0 => .inl rfl
  | k + 1 => by
    have ih := keepTo_mem f l ks x k
    simp only [keepTo]
    cases h1 : l[k]? with
    | none => exact ih
    | some y =>
      cases h2 : ks[k]? with
      | none => exact ih
      | some b =>
        cases b with
        | false => exact ih
        | true =>
          show upd _ y.1 y.2 x = f x ∨ (x, upd _ y.1 y.2 x) ∈ l
          unfold upd
          by_cases hx : x = y.1
          · rw [if_pos hx]; exact .inr (by rw [hx]; exact List.mem_of_getElem? h1)
          · rw [if_neg hx]; exact ih
/-- sectors of which each is as it was, or as some write has it -/
def Mix (f : Int → Sec) (W : List (Int × Sec)) (g : Int → Sec) : Prop := ∀ x, g x = f x ∨ (x, g x) ∈ W
theorem mix_all (f : Int → Sec) (W : List (Int × Sec)) : Mix f W (keepAll f W) := fun x => by
  by_cases h : x ∈ W.map (·.1)
  · exact .inr (keepAll_mem W f x h)
  · exact .inl (keepAll_not f W x h)
theorem Mix.mono {f : Int → Sec} {W W' : List (Int × Sec)} {g : Int → Sec} (h : Mix f W g) (hw : ∀ y ∈ W, y ∈ W') : Mix f W' g := fun x => (h x).imp id (hw _)
def Synced (D : Dsk) : Prop := keepAll D.kept D.wait = D.now
theorem restart_mix {D : Dsk} (h : Synced D) (ks : List Bool) : Mix D.kept D.wait (D.restart ks).now ∧ (D.restart ks).kept = (D.restart ks).now ∧ (D.restart ks).wait = [] ∧ (D.restart ks).size = D.size := by
  have e : (D.restart ks).kept = (D.restart ks).now := by
    funext x
    rw [restart_now]
    show keepTo D.kept D.wait ks D.wait.length x = _
    split
    · rfl
    · rename_i hx
      rw [keepTo_not _ _ _ _ hx, ← h, keepAll_not _ _ _ hx]
  refine ⟨fun x => ?_, e, rfl, rfl⟩
  rw [← e]
  exact keepTo_mem D.kept D.wait ks x _
theorem dur_mix {f g : Int → Sec} {c : Int} {st : List Int} {n : Nat} {W : List (Int × Sec)} (h : Dur f c (st.take n)) (hg : Mix f W g) (hW : ∀ y ∈ W, ∃ i : Nat, y = ((i : Int) + 2, secAt st i)) : Dur g c (st.take n) := by
  have low : ∀ x : Int, x < 2 → g x = f x := fun x hx => by
    rcases hg x with h1 | h1
    · exact h1
    · obtain ⟨i, hi⟩ := hW _ h1
      simp only [Prod.mk.injEq] at hi
      omega
  refine ⟨fun j hj => ?_, h.c0, fun hc => ?_, fun hc => ?_⟩
  · rcases hg (2 + (j / 64 : Nat)) with h1 | h1
    · rw [h1]; exact h.has j hj
    · obtain ⟨i, hi⟩ := hW _ h1
      simp only [Prod.mk.injEq] at hi
      have : i = j / 64 := by omega
      subst this
      rw [hi.2]
      rw [List.length_take] at hj
      rw [secAt_get st j (by omega), List.getElem_take]
  · rw [low 0 (by omega), low 1 (by omega)]; exact h.zero hc
  · rw [low (c % 2) (by omega), low (1 - c % 2) (by omega)]; exact h.head hc
theorem todo_is (L : Lg) : ∀ y ∈ L.todo, ∃ i : Nat, y = ((i : Int) + 2, secAt L.st i) := fun y hy => by
  obtain ⟨i, _, _, h⟩ := (secsOf_mem _ _ _ _).1 hy
  exact ⟨i, h⟩
/-- all of the stream is there behind the writes -/
theorem has_todo {f : Int → Sec} {L : Lg} (h : Has f (L.st.take L.len.toNat)) (hl : L.len.toNat ≤ L.st.length) : Has (keepAll f L.todo) L.st := fun j hj => by
  by_cases hj2 : L.len.toNat / 64 ≤ j / 64
  · have hm : (2 + (j / 64 : Nat) : Int) ∈ L.todo.map (·.1) := by
      refine List.mem_map.2 ⟨(((j / 64 : Nat) : Int) + 2, secAt L.st (j / 64)), (secsOf_mem _ _ _ _).2 ⟨j / 64, hj2, ?_, rfl⟩, by show ((j / 64 : Nat) : Int) + 2 = _; omega⟩
      unfold upTo
      omega
    have := keepAll_mem L.todo f _ hm
    obtain ⟨i, hi⟩ := todo_is L _ this
    simp only [Prod.mk.injEq] at hi
    have hie : i = j / 64 := by omega
    rw [hi.2, hie]
    exact secAt_get L.st j hj
  · have hn : (2 + (j / 64 : Nat) : Int) ∉ L.todo.map (·.1) := by
      intro hm
      obtain ⟨y, hy, hye⟩ := List.mem_map.1 hm
      obtain ⟨i, hi1, _, rfl⟩ := (secsOf_mem _ _ _ _).1 hy
      have hye : (i : Int) + 2 = 2 + (j / 64 : Nat) := hye
      omega
    rw [keepAll_not _ _ _ hn, h j (by rw [List.length_take]; omega), List.getElem_take]
theorem numOf_app (a b : List Int) : numOf (a ++ b) = numOf a + 256 ^ a.length * numOf b := by
  induction a with
  | nil => simp [numOf]
  | cons x a ih =>
    simp only [List.cons_append, numOf, ih, List.length_cons, Int.pow_succ]
    rw [Int.mul_add, Int.add_assoc]
    congr 2
    rw [← Int.mul_assoc, Int.mul_comm 256 (256 ^ a.length)]
theorem head_cnt (c n : Int) (h0 : 0 ≤ c) (h1 : c < 18446744073709551616) : cntOf (headSec c n) = c := by
  have e : (headSec c n).take 8 = leN c 8 := by
    unfold headSec padTo
    rw [List.append_assoc, List.take_append_of_le_length (by simp), List.take_of_length_le (by simp)]
  unfold cntOf
  rw [e]
  exact numOf_leN c 8 h0 (by have : (256 : Int) ^ 8 = 18446744073709551616 := (by decide); omega)
theorem head_len (c n : Int) (h0 : 0 ≤ n) (h1 : n < 4294967296) : lenOf (headSec c n) = n := by
  have e : ((headSec c n).drop 8).take 4 = leN n 4 := by
    unfold headSec padTo
    rw [List.append_assoc, List.drop_append, List.drop_of_length_le (by simp)]
    rw [List.nil_append, leN_len, Nat.sub_self, List.drop_zero, List.take_append_of_le_length (by simp), List.take_of_length_le (by simp)]
  unfold lenOf
  rw [e]
  exact numOf_leN n 4 h0 (by have : (256 : Int) ^ 4 = 4294967296 := (by decide); omega)
theorem dur_head {g : Int → Sec} {c : Int} {P Q : List Int} (h : Dur g c P) (hq : Has g Q) (hc : c + 1 < 18446744073709551616) (hl : (Q.length : Int) < 4294967296) :
    Dur (upd g ((c + 1) % 2) (headSec (c + 1) Q.length)) (c + 1) Q := by
  have c0 := h.c0
  refine ⟨fun j hj => ?_, by omega, fun h => by omega, fun _ => ?_⟩
  · unfold upd
    rw [if_neg (by omega)]
    exact hq j hj
  · have e1 : upd g ((c + 1) % 2) (headSec (c + 1) Q.length) ((c + 1) % 2) = headSec (c + 1) Q.length := by unfold upd; rw [if_pos rfl]
    have e2 : upd g ((c + 1) % 2) (headSec (c + 1) Q.length) (1 - (c + 1) % 2) = g (c % 2) := by unfold upd; rw [if_neg (by omega)]; congr 1; omega
    rw [e1, e2, head_cnt _ _ (by omega) hc, head_len _ _ (by omega) hl]
    refine ⟨rfl, rfl, ?_⟩
    by_cases hz : c = 0
    · have := h.zero hz
      subst hz
      rw [show (0 : Int) % 2 = 0 from rfl, this.1]; decide
    · have := (h.head (by omega)).1
      omega
end Go.Proofs.Ytihpobpkhhkejaa
