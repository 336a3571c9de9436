/-
  What Committed and Active of the book of transactions list: the numbers of a state, rising. Condition: a book stands at the address.
-/
import Derived.Test.YtkneldeemlngkaaMLayI
import Derived.Test.YtkneldeemlngkaaMLaws
set_option autoImplicit false
namespace Go.Proofs.Ytkneldeemlngkaa
open Go Go.RowKit Go.Maps Go.Sort Go.Shelf
attribute [local go_sem] field_ent0 field_ent1 field_ent2

theorem sortsI (m : Nat) : AnyZI.SortsIn Try.prog sortedI_ren Fence.wide m :=
  ⟨fun blk off cap ss W hH hblk hsz => callsIn_wide.2 (AnyM.slices_Sort_int sortI blk off cap ss W hH hblk hsz),
   fun p cap W => callsIn_wide.2 (AnyM.slices_Sort_int_none sortI p cap W)⟩
def anyR (_ : Value) : Option (DataW Unit × List MemPlace) := some (.nil, [])
theorem insert_perm {H : Type} (x : Lit × DataW H) : ∀ l : List (Lit × DataW H), (DataW.insert x l).Perm (x :: l)
  | [] => List.Perm.refl _
  | y :: r => by
    unfold DataW.insert
    split
    · exact List.Perm.refl _
    · exact ((insert_perm x r).cons y).trans (List.Perm.swap x y r)
theorem foldr_insert_perm {H : Type} : ∀ l : List (Lit × DataW H), (l.foldr DataW.insert []).Perm l
  | [] => List.Perm.refl _
  | x :: l => by
    rw [List.foldr_cons]
    exact (insert_perm x _).trans ((foldr_insert_perm l).cons x)
/-- the keys of a map of entries, as numbers -/
def keyNum : Value → Int
  | .int _ a => a
  | _ => 0
theorem key_form {es : List MapEntry} (h : KeysTy (.int .i64) es) {x : MapEntry} (hx : x ∈ es) : x.key = .int .i64 (keyNum x.key) := by
  have hk := h x hx
  generalize x.key = k at *
  cases k <;> simp [KeyTy] at hk
  obtain rfl := hk
  rfl
theorem mem_keys {es : List MapEntry} (h : KeysTy (.int .i64) es) (a : Int) : a ∈ es.map (fun x => keyNum x.key) ↔ (mfind es (.int .i64 a)).isSome = true := by
  unfold mfind
  rw [List.mem_map, Option.isSome_map, List.find?_isSome]
  constructor
  · rintro ⟨x, hx, rfl⟩
    exact ⟨x, hx, by rw [key_form h hx]; simp [kmatch, keyNum]⟩
  · rintro ⟨x, hx, hk⟩
    refine ⟨x, hx, ?_⟩
    rw [key_form h hx] at hk
    have : a = keyNum x.key := by simpa [kmatch] using hk
    exact this.symm
theorem keys_nodup {es : Array MapEntry} {c : Nat} (h : KeysTy (.int .i64) es.toList) (hs : MapKept.Stamped es c) : (es.toList.map (fun x => keyNum x.key)).Nodup := by
  have := hs.2.2
  rw [List.Nodup, List.pairwise_map] at this ⊢
  refine this.imp_of_mem (fun {x y} hx hy hne e => hne ?_)
  rw [key_form h hx, key_form h hy, e]
def Bk.nums (B : Bk) : List Int := (upto B.next).filter fun k => (B.all k).isSome
theorem nums_perm {B : Bk} (ok : B.ok) {es : Array MapEntry} {c : Nat} (is : MapEnt es c B.all) : (es.toList.map (fun x => keyNum x.key)).Perm B.nums := by
  refine (List.perm_ext_iff_of_nodup (keys_nodup is.keys is.stamped) (((upto_sorted B.next).filter _).imp (fun h => by omega))).2 fun a => ?_
  rw [mem_keys is.keys, is.look]
  rw [List.mem_filter, mem_upto]
  cases hb : B.all a with
  | none => simp
  | some e =>
    have := ok.dom a e hb
    simp; omega
theorem nums_len (B : Bk) : B.nums.length ≤ B.next.toNat := by
  unfold Bk.nums upto
  refine Nat.le_trans (List.length_filter_le _ _) ?_
  simp
theorem sort_rising {l : List Int} (h : l.Pairwise (· < ·)) : l.mergeSort leI = l := by
  refine List.mergeSort_of_pairwise (h.imp (fun hh => ?_))
  simp only [leI, decide_eq_true_eq]; omega
theorem rd_any {x : MapEntry} {a : Int} (h : x.key = .int .i64 a) (hw : (Lit.int .i64 a).wf = true) : Go.WideElems.rd Try.prog 3 anyR x = some (.int .i64 a, .nil) := by
  have hk : keyOf Try.prog 3 x.key = some (.int .i64 a) := by
    rw [h]
    simp [keyOf, Try.underlying3, mapKey, hw]
  unfold Go.WideElems.rd
  rw [hk]
  rfl
theorem wf_small {a : Int} (h0 : 0 ≤ a) (h1 : a ≤ 16777217) : (Lit.int .i64 a).wf = true := by
  simp [Lit.wf, IntKind.min, IntKind.max, IntKind.signed, IntKind.bits]; omega
set_option maxRecDepth 100000 in
theorem book_owns {B : Bk} (ok : B.ok) {es : Array MapEntry} {c b : Nat} {w : World} (is : MapEnt es c B.all) (hb : w.heap[b]? = some (.map es c)) :
    ∃ D0 : DataW Unit, w.ownsMap Try.prog 3 anyR b es.size D0 ∧ (intKeys D0).Perm B.nums ∧ Maps.size D0 ≤ 16777217 := by
  have hrd : ∀ x ∈ es.toList, Go.WideElems.rd Try.prog 3 anyR x = some (.int .i64 (keyNum x.key), .nil) := fun x hx => by
    refine rd_any (key_form is.keys hx) ?_
    have hm : keyNum x.key ∈ B.nums := (nums_perm ok is).mem_iff.1 (List.mem_map.2 ⟨x, hx, rfl⟩)
    unfold Bk.nums at hm
    rw [List.mem_filter, mem_upto] at hm
    have h2 := ok.n2; have h3 := ok.m1
    exact wf_small hm.1.1 (by omega)
  have hsz : es.size ≤ 16777217 := by
    have h1 := (nums_perm ok is).length_eq
    have h2 := nums_len B
    have h3 := ok.n2; have h4 := ok.m1
    simp at h1
    omega
  refine ⟨_, ⟨es, c, hb, ⟨by unfold maxLen; omega, is.stamped, fun x hx => ⟨_, hrd x hx⟩⟩, Nat.le_refl _, rfl⟩, ?_, ?_⟩
  · show ((es.toList.map (Go.WideElems.rg Try.prog 3 anyR)).foldr DataW.insert []).map (fun p => Go.intOf p.1) |>.Perm B.nums
    refine ((foldr_insert_perm _).map _).trans ?_
    rw [List.map_map]
    refine List.Perm.trans (List.Perm.of_eq (List.map_congr_left (fun x hx => ?_))) (nums_perm ok is)
    show Go.intOf (Go.WideElems.rg Try.prog 3 anyR x).1 = keyNum x.key
    unfold Go.WideElems.rg
    rw [hrd x hx]
    rfl
  · show ((es.toList.map (Go.WideElems.rg Try.prog 3 anyR)).foldr DataW.insert []).length ≤ _
    rw [(foldr_insert_perm _).length_eq]
    simpa using hsz
theorem below_chg {w w' : World} (h : Below w.heap.size w w') : Chg (fun _ => False) w w' := ⟨h.os, h.tape, h.output, h.size, fun k hk _ => h.block k hk⟩
theorem keys_calls (mb : Option Nat) (W : World) : Calls Try.prog 33 #[.map mb] W fun e w' => e = .returned (.func (.func 36) #[] #[.pointer (some ⟨W.heap.size, 0, none⟩)]) ∧ W.alloc (.cells #[.map mb] 55) = w' :=
  (callsIn_wide.1 (AnyZI.keys_in keysI Fence.wide 5 trivial rfl mb W)).mono fun _ _ ⟨h1, h2⟩ => ⟨h1, h2.symm⟩
set_option maxRecDepth 100000 in
theorem sorted_calls {B : Bk} (ok : B.ok) {es : Array MapEntry} {c b : Nat} (w : World) (is : MapEnt es c B.all) (hb : w.heap[b]? = some (.map es c)) :
    Calls Try.prog 32 #[.func (.func 36) #[] #[.pointer (some ⟨w.heap.size, 0, none⟩)]] (w.alloc (.cells #[.map (some b)] 55)) fun e w' => ∃ v, e = .returned v ∧ Ints w' (w.heap.size + 1) v B.nums ∧ Chg (fun _ => False) (w.alloc (.cells #[.map (some b)] 55)) w' := by
  obtain ⟨D0, hown, hperm, hsz⟩ := book_owns ok is hb
  have hbl := lt_of_heap hb
  have hmax : Maps.size D0 ≤ maxLen := by unfold maxLen; omega
  have hseq : SeqGives Fence.wide 2 Try.prog 36 #[.pointer (some ⟨w.heap.size, 0, none⟩)] encZ (fun ss => ss.Perm (intKeys D0)) (Maps.size D0) (w.alloc (.cells #[.map (some b)] 55)) :=
    AnyZI.keys_gives (ρ := keysI_ren) { keysI with } Fence.wide _ trivial rfl (by omega) w.heap.size b es.size D0 _ (by simp) (by simp) (by
      obtain ⟨es, clock, hb, Ft, hs, hD⟩ := hown
      exact ⟨es, clock, (Below.heap_alloc _ _ b hbl).trans hb, Ft, hs, hD⟩)
  have cS := AnyZI.sorted_in sortedI Fence.wide 5 trivial trivial trivial trivial rfl (by omega) (sortsI _) (enters_of Try.func35 (by kernel_rfl) rfl) 36 #[.pointer (some ⟨w.heap.size, 0, none⟩)] trivial (enters_of Try.func36 (by kernel_rfl) rfl) _ _ hmax (by omega) _ hseq
  change CallsIn _ _ Try.prog 32 _ _ _ at cS
  refine (callsIn_wide.1 cS).mono ?_
  rintro e w' ⟨v, ss, rfl, hS, hrow, _, hbw⟩
  have hss : ss.mergeSort (fun x y => decide (x ≤ y)) = B.nums := by
    have h1 := mergeSort_of_perm_i (hS.trans hperm)
    exact h1.trans (sort_rising ((upto_sorted B.next).filter _))
  have hl : ss.length = B.nums.length := (hS.trans hperm).length_eq
  rw [hss, hl] at hrow
  have e1 : (w.alloc (.cells #[.map (some b)] 55)).heap.size = w.heap.size + 1 := by simp
  rw [e1] at hrow
  refine ⟨v, rfl, ⟨⟨hrow.1, ?_⟩, fun g hg => (hrow.lt g hg).1⟩, below_chg hbw⟩
  rcases hrow.2 with h | ⟨g, cap, cur, h1, _, h3⟩
  · exact .inl h
  · exact .inr ⟨g, cap, cur, h1, Nat.zero_le _, h3⟩
end Go.Proofs.Ytkneldeemlngkaa
