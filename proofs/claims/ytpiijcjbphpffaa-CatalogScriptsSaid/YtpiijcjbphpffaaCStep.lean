/-
  AddTable and AddIndex on number k of the three, the program's and the document's. No condition beyond each lemma's own.
-/
import Derived.Test.YtpiijcjbphpffaaCState
set_option autoImplicit false
namespace Go.Proofs.Ytpiijcjbphpffaa
open Go Go.RowKit

def stepT (o : Option Cat) (t : Tab) : Int := match o with
  | none => 2
  | some C => C.addTR t
def stepI (o : Option Cat) (n t c : ByteArray) : Int := match o with
  | none => 2
  | some C => C.addIR n t c
section
variable {w0 w w1 w2 : World} {c : Nat → Nat} {hb wb : Nat} {hv wv : Nat → Value} {o : Nat → Option Cat}
/-- between the two calls -/
def Mid (w0 w w1 : World) (c : Nat → Nat) (hv wv : Nat → Value) (k : Nat) (F : Nat → Prop) (f : Cat → Cat) : Option Cat → Prop
  | none => Chg (fun _ => False) w w1 ∧ hv k = .pointer none ∧ wv k = .pointer none
  | some C => ∃ rc rr vt vi K D, C.bud ∧ Like C D ∧ hv k = .pointer (some ⟨rc, 0, none⟩) ∧ wv k = .pointer (some ⟨rr, 0, none⟩) ∧ RAt w w0.heap.size rr K vt vi C ∧ (∀ g, RF rr vt vi g → c g = k + 4) ∧ (∀ g, K g → c g = 7) ∧
      CatAt w1 rc F (f D) ∧ Chg (fun g => c g = k + 1 ∧ g < w.heap.size) w w1
theorem Mid.chg {k : Nat} {F : Nat → Prop} {f : Cat → Cat} {q : Option Cat} (h : Mid w0 w w1 c hv wv k F f q) : Chg (fun g => c g = k + 1 ∧ g < w.heap.size) w w1 := by
  cases q with
  | none => exact h.1.mono (fun _ h => h.elim)
  | some C =>
    obtain ⟨rc, rr, vt, vi, K, D, _, _, _, _, _, _, _, _, x⟩ := h
    exact x
theorem St.addT1 (h : St w0 w c hb wb hv wv o) {k : Nat} (hk : k < 3) (t : Tab) (v : Value) (G : Nat → Prop) (hv1 : ColsAt w G v t.cols) (hm : t.cols.length ≤ 9223372036854775807) (hn : big t.name) (hb1 : ∀ x ∈ t.cols, big x.name) :
    Calls Try.prog 10 #[hv k, .agg #[.string t.name, v]] w fun e w1 => e = .returned (.int .i64 (stepT (o k) t)) ∧ Mid w0 w w1 c hv wv k (Ext (fun g => c g = k + 1 ∧ g < w.heap.size) w w1) (fun D => D.addT t) (o k) := by
  have h1 := h.each k hk
  cases ho : o k with
  | none =>
    rw [ho] at h1
    obtain ⟨e1, e2⟩ := h1
    rw [e1]
    obtain ⟨ao, cap, rfl, _⟩ := hv1
    exact (addT_nil ao _ cap w t.name).mono fun e w1 ⟨a, b⟩ => ⟨a, b, e1, e2⟩
  | some C =>
    rw [ho] at h1
    obtain ⟨hbud, rc, rr, vt, vi, K, D, e1, e2, hc, hl, hr, hRF, hK⟩ := h1
    rw [e1]
    have hc2 := hc.mono (G := fun g => c g = k + 1 ∧ g < w.heap.size) (fun g hg hl => ⟨hg, hl⟩)
    refine (addT_any rc _ G D t v w hc2 hv1 hm hn hb1).mono fun e w1 ⟨a, b, x⟩ => ⟨?_, rc, rr, vt, vi, K, D, hbud, hl, e1, e2, hr, hRF, hK, b, x⟩
    rw [a, hl.addTR hr.ok]
    rfl
theorem St.addT2 (h : St w0 w c hb wb hv wv o) {k : Nat} (hk : k < 3) {w1' : World} (t : Tab) (v : Value) (G : Nat → Prop) (hv1 : ColsAt w1' G v t.cols) (hm : t.cols.length ≤ 9223372036854775807) (hn : big t.name) (hb1 : ∀ x ∈ t.cols, big x.name)
    (hmid : Mid w0 w w1 c hv wv k (Ext (fun g => c g = k + 1 ∧ g < w.heap.size) w w1) (fun D => D.addT t) (o k)) (xq : Chg (fun _ => False) w1 w1') :
    Calls Try.prog 22 #[wv k, .agg #[.string t.name, v]] w1' fun e w2 => e = .returned (.int .i64 (stepT (o k) t)) ∧ ∃ c', St w0 w2 c' hb wb hv wv (fun j => if j = k then (o k).map (·.addT t) else o j) ∧ (∀ g, g < w.heap.size → c' g = c g) ∧ Chg (fun g => c g ≠ 0 ∧ c g ≠ 8 ∧ c g ≠ 9) w w2 := by
  cases ho : o k with
  | none =>
    rw [ho] at hmid
    obtain ⟨x, e1, e2⟩ := hmid
    rw [e2]
    obtain ⟨ao, cap, rfl, _⟩ := hv1
    refine (raddT_nil ao _ cap w1' t.name).mono fun e w2 ⟨a, b⟩ => ⟨a, c, ?_, fun _ _ => rfl, ((x.trans xq (fun _ h => h.elim)).trans b (fun _ h => h.elim)).mono (fun _ h => h.elim)⟩
    have h2 := h.quiet ((x.trans xq (fun _ h => h.elim)).trans b (fun _ h => h.elim))
    have e : (fun j => if j = k then Option.map (fun x : Cat => x.addT t) none else o j) = o := by
      funext j
      by_cases hj : j = k
      · subst hj; rw [if_pos rfl, ho]; rfl
      · rw [if_neg hj]
    rw [e]
    exact h2
  | some C =>
    rw [ho] at hmid
    obtain ⟨rc, rr, vt, vi, K, D, hbud, hl, e1, e2, hr, hRF, hK, hc1, x⟩ := hmid
    rw [e2]
    have hr1 := (hr.chg x (fun g hg hp => by have := hRF g hg; omega) (fun g hg hp => by have := hK g hg; omega)).quiet xq
    exact (raddT_any w0.heap.size rr K G vt vi C t v w1' hr1 hv1 hm hn hb1 (by have := h.chg.size; have := x.size; have := xq.size; omega)).mono fun e w2 ⟨a, b⟩ => by
      obtain ⟨c', s1, s2⟩ := h.addT hk hbud hl hr hRF hK hc1 x xq b e1 e2
      obtain ⟨_, _, _, x2, _⟩ := b
      exact ⟨a, c', s1, s2, ((x.mono (G := fun g => c g ≠ 0 ∧ c g ≠ 8 ∧ c g ≠ 9) (fun g hg => .inl (by omega))).trans xq (fun _ h => h.elim)).trans x2 (fun g hg => .inl (by rw [hRF g hg]; omega))⟩
theorem St.addI1 (h : St w0 w c hb wb hv wv o) {k : Nat} (hk : k < 3) (n t cn : ByteArray) (b : Bool) (hn : big n) :
    Calls Try.prog 11 #[hv k, .string n, .string t, .string cn, .bool b] w fun e w1 => e = .returned (.int .i64 (stepI (o k) n t cn)) ∧ Mid w0 w w1 c hv wv k (fun g => c g = k + 1 ∧ g < w.heap.size) (fun D => D.addI n t cn b) (o k) := by
  have h1 := h.each k hk
  cases ho : o k with
  | none =>
    rw [ho] at h1
    obtain ⟨e1, e2⟩ := h1
    rw [e1]
    exact (addI_nil n t cn b w).mono fun e w1 ⟨a, b⟩ => ⟨a, b, e1, e2⟩
  | some C =>
    rw [ho] at h1
    obtain ⟨hbud, rc, rr, vt, vi, K, D, e1, e2, hc, hl, hr, hRF, hK⟩ := h1
    rw [e1]
    have hc2 := hc.mono (G := fun g => c g = k + 1 ∧ g < w.heap.size) (fun g hg hl => ⟨hg, hl⟩)
    refine (addI_any rc _ D n t cn b w hc2 hn).mono fun e w1 ⟨a, b, x⟩ => ⟨?_, rc, rr, vt, vi, K, D, hbud, hl, e1, e2, hr, hRF, hK, b, x⟩
    rw [a, hl.addIR hr.ok]
    rfl
theorem St.addI2 (h : St w0 w c hb wb hv wv o) {k : Nat} (hk : k < 3) {w1' : World} (n t cn : ByteArray) (b : Bool) (hn : big n)
    (hmid : Mid w0 w w1 c hv wv k (fun g => c g = k + 1 ∧ g < w.heap.size) (fun D => D.addI n t cn b) (o k)) (xq : Chg (fun _ => False) w1 w1') :
    Calls Try.prog 23 #[wv k, .string n, .string t, .string cn, .bool b] w1' fun e w2 => e = .returned (.int .i64 (stepI (o k) n t cn)) ∧ ∃ c', St w0 w2 c' hb wb hv wv (fun j => if j = k then (o k).map (·.addI n t cn b) else o j) ∧ Chg (fun g => c g ≠ 0 ∧ c g ≠ 8 ∧ c g ≠ 9) w w2 := by
  cases ho : o k with
  | none =>
    rw [ho] at hmid
    obtain ⟨x, e1, e2⟩ := hmid
    rw [e2]
    refine (raddI_nil n t cn b w1').mono fun e w2 ⟨a, hq⟩ => ⟨a, c, ?_, by subst hq; exact (x.trans xq (fun _ h => h.elim)).mono (fun _ h => h.elim)⟩
    subst hq
    have h2 := h.quiet (x.trans xq (fun _ h => h.elim))
    have e : (fun j => if j = k then Option.map (fun x : Cat => x.addI n t cn b) none else o j) = o := by
      funext j
      by_cases hj : j = k
      · subst hj; rw [if_pos rfl, ho]; rfl
      · rw [if_neg hj]
    rw [e]
    exact h2
  | some C =>
    rw [ho] at hmid
    obtain ⟨rc, rr, vt, vi, K, D, hbud, hl, e1, e2, hr, hRF, hK, hc1, x⟩ := hmid
    rw [e2]
    have hr1 := (hr.chg x (fun g hg hp => by have := hRF g hg; omega) (fun g hg hp => by have := hK g hg; omega)).quiet xq
    exact (raddI_any w0.heap.size rr K vt vi C n t cn b w1' hr1 hn (by have := h.chg.size; have := x.size; have := xq.size; omega)).mono fun e w2 ⟨a, b⟩ => by
      obtain ⟨c', s1⟩ := h.addI hk hbud hl hr hRF hK hc1 x xq b e1 e2
      obtain ⟨_, _, x2, _⟩ := b
      refine ⟨a, c', s1, ((x.mono (G := fun g => c g ≠ 0 ∧ c g ≠ 8 ∧ c g ≠ 9) (fun g hg => .inl (by omega))).trans xq (fun _ h => h.elim)).trans x2 (fun g hg => .inl ?_)⟩
      rcases hg with hg | hg
      · rw [hRF g (.inl hg)]; omega
      · rw [hRF g (.inr (.inr hg))]; omega
end
end Go.Proofs.Ytpiijcjbphpffaa
