/-
  The law's own look: is a condition read, bound, asked? Condition: the library's variables stand.
  What is printed of a tree, and that it is read again, in plain Lean: the texts of tokens. No condition beyond each lemma's own.
-/
import Derived.Test.YtnbckfkdmkbopaaGreatDoorTH36
import Derived.Test.YtnbckfkdmkbopaaGreatDoorTH26
import Derived.Test.YtnbckfkdmkbopaaGreatDoorTH03
import Derived.Lib.ItoaNum
import Derived.Lib.Replace
import Derived.Lib.Case
set_option autoImplicit false
namespace Go.Proofs.YtnbckfkdmkbopaaGreatDoor
open Go Go.RowKit

def rtext : Str := [97, 32, 61, 32, 49, 32, 97, 110, 100, 32, 99, 32, 105, 115, 32, 110, 111, 116, 32, 110, 117, 108, 108]
def rx : Ex := .bin 16 (.bin 10 (.col [] [97]) (.val ⟨1, 1, []⟩)) (.un 19 (.col [] [99]))
def ry : Ex := .bin 16 (.bin 10 (.slot 1) (.val ⟨1, 1, []⟩)) (.un 19 (.slot 3))
def rrow : List Val := [Val.null, ⟨1, 1, []⟩, Val.null, ⟨3, 0, [120]⟩]
theorem rtext_asked : askedL rtext = some (rx, ry) := by kernel_rfl
theorem rrow_holds : holdsV rrow ry = (true, 0) := by kernel_rfl
theorem ry_ty : tyL cols4 ry = some 2 := by kernel_rfl
theorem rrow_ok : rowOk cols4 rrow := by
  refine ⟨rfl, fun i v c hv hc => ?_⟩
  match i, hv, hc with
  | 0, hv, hc => cases hv; cases hc; exact ⟨rfl, .inl rfl⟩
  | 1, hv, hc => cases hv; cases hc; exact ⟨rfl, .inr rfl⟩
  | 2, hv, hc => cases hv; cases hc; exact ⟨rfl, .inl rfl⟩
  | 3, hv, hc => cases hv; cases hc; exact ⟨rfl, .inr rfl⟩
  | n + 4, hv, _ => simp [rrow] at hv
set_option maxRecDepth 100000 in
set_option maxHeartbeats 2000000 in
theorem reads_any (w : World) (hg : Glob w) (h10 : 10 ≤ w.heap.size) : Calls Tryz.prog 5 #[] w fun e w' => e = .returned (.bool true) ∧ Chg NoB w w' := by
  have HA := Lib.hid (asked_any rtext w hg h10 (by decide))
  clear hg
  go_enter Tryz.func5, Tryz.ntmps5
  go_wp2_with fail
  refine HA.out.mono ?_
  rintro e w1 ⟨c1, A, B, rfl, hx⟩
  rw [rtext_asked]
  obtain ⟨_, hyB⟩ := hx rx ry rtext_asked
  have X1 := Lib.hid c1
  have XB := Lib.hid hyB
  clear c1 hx hyB
  go_wp2_with fail
  have HW : Hid (∀ o, Chg NoB w (((w1.alloc A.obj).alloc B.obj).alloc o)) := Lib.hid fun o => ((X1.out.alloc _).alloc _).alloc o
  refine (holds_any cols4 rrow rrow_ok _ _ ry 2 ry_ty (.inl rfl) B _ (fun _ => True) _ (XB.out.quiet (((Chg.refl _ _).alloc _).alloc _ |>.alloc _)) ⟨_, _, rfl, fun _ => ⟨_, 0, rfl, ?_, trivial, range_block (hal_new' (by simp))⟩⟩).mono ?_
  · simp
  rw [rrow_holds]
  rintro e w2 ⟨rfl, c2⟩
  have X2 := Lib.hid ((HW.out _).trans c2 (fun k h => h.elim))
  clear c2
  go_wp2_with fail
  go_ret
  exact ⟨rfl, X2.out⟩
end Go.Proofs.YtnbckfkdmkbopaaGreatDoor

set_option autoImplicit false
namespace Go.Proofs.YtnbckfkdmkbopaaGreatDoor
open Go

/-! what is printed -/
/-- each quote twice -/
def dbl : Str → Str
  | [] => []
  | c :: r => if c = 39 then 39 :: 39 :: dbl r else c :: dbl r
def showL (v : Val) : Str :=
  if v.kind = 1 then Lib.itoa v.num
  else if v.kind = 2 then (if v.num = 1 then sTRUE else sFALSE)
  else if v.kind = 3 then 39 :: (dbl v.str ++ [39])
  else sNULL
def signOf (k : Int) : Str :=
  if k = 5 then [43] else if k = 6 then [45] else if k = 7 then [42] else if k = 8 then [47] else if k = 9 then [37]
  else if k = 10 then [61] else if k = 11 then [60, 62] else if k = 12 then [60] else if k = 13 then [60, 61] else if k = 14 then [62] else if k = 15 then [62, 61]
  else if k = 16 then sAND else sOR
def Ex.leaf : Ex → Bool
  | .un _ _ => false
  | .bin _ _ _ => false
  | _ => true
def parS (b : Bool) (s : Str) : Str := if b then s else 40 :: (s ++ [41])
def printL : Ex → Str
  | .val v => showL v
  | .col t n => if t.isEmpty then n else t ++ 46 :: n
  | .slot _ => []
  | .cnt => []
  | .un k a =>
    if k = 3 then 45 :: parS a.leaf (printL a)
    else if k = 4 then sNOT ++ 32 :: parS a.leaf (printL a)
    else if k = 18 then parS a.leaf (printL a) ++ 32 :: (sIS ++ 32 :: sNULL)
    else parS a.leaf (printL a) ++ 32 :: (sIS ++ 32 :: (sNOT ++ 32 :: sNULL))
  | .bin k a b => parS a.leaf (printL a) ++ 32 :: (signOf k ++ 32 :: parS b.leaf (printL b))

/-! its tokens -/
def litT (v : Val) : Tok :=
  if v.kind = 1 then ⟨3, [], v.num⟩ else if v.kind = 2 then ⟨1, if v.num = 1 then sTRUE else sFALSE, 0⟩ else if v.kind = 3 then ⟨4, v.str, 0⟩ else ⟨1, sNULL, 0⟩
def opT (k : Int) : Tok := ⟨if 16 ≤ k then 1 else 5, signOf k, 0⟩
def parT (b : Bool) (ts : List Tok) : List Tok := if b then ts else ⟨5, [40], 0⟩ :: (ts ++ [⟨5, [41], 0⟩])
def toksL : Ex → List Tok
  | .val v => [litT v]
  | .col t n => if t.isEmpty then [⟨2, n, 0⟩] else [⟨2, t, 0⟩, ⟨5, [46], 0⟩, ⟨2, n, 0⟩]
  | .slot _ => []
  | .cnt => []
  | .un k a =>
    if k = 3 then ⟨5, [45], 0⟩ :: parT a.leaf (toksL a)
    else if k = 4 then ⟨1, sNOT, 0⟩ :: parT a.leaf (toksL a)
    else if k = 18 then parT a.leaf (toksL a) ++ [⟨1, sIS, 0⟩, ⟨1, sNULL, 0⟩]
    else parT a.leaf (toksL a) ++ [⟨1, sIS, 0⟩, ⟨1, sNOT, 0⟩, ⟨1, sNULL, 0⟩]
  | .bin k a b => parT a.leaf (toksL a) ++ opT k :: parT b.leaf (toksL b)

/-! which trees come of a text -/
def NameOk (n : Str) : Prop := n ≠ [] ∧ headLet n = true ∧ n.all wordB = true ∧ n.map Lib.lowerB = n ∧ isKw (n.map Lib.upperB) = false ∧ n.length ≤ 32
def LitOk (v : Val) : Prop := v = ⟨0, 0, []⟩ ∨ (∃ n : Nat, n ≤ 9223372036854775807 ∧ v = ⟨1, n, []⟩) ∨ v = ⟨2, 0, []⟩ ∨ v = ⟨2, 1, []⟩ ∨ (∃ s, s.length ≤ 64 ∧ v = ⟨3, 0, s⟩)
def Leaves : Ex → Prop
  | .val v => LitOk v
  | .col t n => (t = [] ∨ NameOk t) ∧ NameOk n
  | .slot _ => True
  | .cnt => True
  | .un _ a => Leaves a
  | .bin _ a b => Leaves a ∧ Leaves b
def PrintOk : Ex → Prop
  | .val v => LitOk v
  | .col t n => (t = [] ∨ NameOk t) ∧ NameOk n
  | .slot _ => False
  | .cnt => False
  | .un k a => (k = 3 ∨ k = 4 ∨ k = 18 ∨ k = 19) ∧ PrintOk a
  | .bin k a b => (5 ≤ k ∧ k ≤ 17) ∧ PrintOk a ∧ PrintOk b
theorem printOk_of (cs : List Bcol) : ∀ (x y : Ex) (t : Int), Leaves x → bindL cs x = some (y, t) → PrintOk x
  | .val v, _, _, h, _ => h
  | .col _ _, _, _, h, _ => h
  | .slot _, y, t, _, hb => by simp [bindL] at hb
  | .cnt, y, t, _, hb => by simp [bindL] at hb
  | .un k a, y, t, h, hb => by
    simp only [bindL] at hb
    split at hb
    · rename_i hk
      split at hb
      · cases hb
      · rename_i z s ha
        exact ⟨by simpa [unK, or_assoc] using hk, printOk_of cs a z s h ha⟩
    · cases hb
  | .bin k a b, y, t, h, hb => by
    simp only [bindL] at hb
    split at hb
    · rename_i hk
      split at hb
      · cases hb
      · rename_i z s ha
        split at hb
        · cases hb
        · rename_i z2 s2 hb2
          exact ⟨by simpa [binK] using hk, printOk_of cs a z s h.1 ha, printOk_of cs b z2 s2 h.2 hb2⟩
    · cases hb

/-! texts of tokens are cut into them again -/
def Sep : Str → Prop
  | [] => True
  | c :: _ => wordB c = false ∧ c ≠ 39
def consL (ts : List Tok) (o : Option (List Tok)) : Option (List Tok) := o.map (ts ++ ·)
theorem consL_nil (o : Option (List Tok)) : consL [] o = o := by cases o <;> rfl
theorem consL_app (a b : List Tok) (o : Option (List Tok)) : consL a (consL b o) = consL (a ++ b) o := by cases o <;> simp [consL]
/-- the text s, ahead of whatever may stand there, is the tokens ts -/
def Lexes (s : Str) (ts : List Tok) : Prop := ∀ (rest : Str) (n : Nat), Sep rest → lexAll (ts.length + n) (s ++ rest) = consL ts (lexAll n rest)
theorem lex_space (n : Nat) (r : Str) : lexAll n (32 :: r) = lexAll n r := by
  have h : (32 :: r : Str).dropWhile spB = r.dropWhile spB := by rw [List.dropWhile_cons]; rfl
  cases n <;> (unfold lexAll; rw [h])
/-- one token -/
theorem lex_tok1 {x : UInt8} {r r' : Str} {t : Tok} (hs : spB x = false) (h : oneL x r = some (t, r')) (n : Nat) : lexAll (1 + n) (x :: r) = consL [t] (lexAll n r') := by
  have hd : (x :: r : Str).dropWhile spB = x :: r := by rw [List.dropWhile_cons, if_neg (by simp [hs])]
  rw [Nat.add_comm 1 n]
  conv => lhs; unfold lexAll
  rw [hd]
  simp only [h]
  cases lexAll n r' <;> rfl
theorem Lexes.app {s s' : Str} {ts ts' : List Tok} (h : Lexes s ts) (h' : Lexes s' ts') (hs : ∀ rest, Sep rest → Sep (s' ++ rest)) : Lexes (s ++ s') (ts ++ ts') := by
  intro rest n hr
  rw [List.append_assoc, List.length_append, Nat.add_assoc, h (s' ++ rest) (ts'.length + n) (hs rest hr), h' rest n hr, consL_app]
theorem Lexes.sp {s : Str} {ts : List Tok} (h : Lexes s ts) : Lexes (32 :: s) ts := fun rest n hr => by rw [List.cons_append, lex_space]; exact h rest n hr
theorem sep_sp (s rest : Str) : Sep (32 :: s ++ rest) := ⟨rfl, by decide⟩
theorem takeWhile_stop {p : UInt8 → Bool} : ∀ (l r : Str), l.all p = true → (∀ c r', r = c :: r' → p c = false) → (l ++ r).takeWhile p = l ∧ (l ++ r).dropWhile p = r
  | [], r, _, h => by
    cases r with
    | nil => exact ⟨rfl, rfl⟩
    | cons c r' => have := h c r' rfl; simp [this]
  | x :: l, r, ha, h => by
    simp only [List.all_cons, Bool.and_eq_true] at ha
    obtain ⟨h1, h2⟩ := takeWhile_stop l r ha.2 h
    rw [List.cons_append, List.takeWhile_cons, List.dropWhile_cons]
    simp [ha.1, h1, h2]
theorem let_sp : ∀ x : UInt8, letB x = true → spB x = false := by
  intro x
  have : ∀ n : Fin 256, letB (UInt8.ofNat n.val) = true → spB (UInt8.ofNat n.val) = false := by decide +kernel
  have h := this ⟨x.toNat, x.toNat_lt⟩
  simpa using h
theorem dig_sp : ∀ x : UInt8, digB x = true → spB x = false ∧ letB x = false := by
  intro x
  have : ∀ n : Fin 256, digB (UInt8.ofNat n.val) = true → spB (UInt8.ofNat n.val) = false ∧ letB (UInt8.ofNat n.val) = false := by decide +kernel
  have h := this ⟨x.toNat, x.toNat_lt⟩
  simpa using h
theorem word_let {x : UInt8} (h : letB x = true) : wordB x = true := by simp [wordB, h]
/-- a word that is a keyword -/
theorem lexes_kw (w : Str) (x : UInt8) (r : Str) (hx : w = x :: r) (hl : letB x = true) (ha : w.all wordB = true) (hk : isKw (w.map Lib.upperB) = true) : Lexes w [⟨1, w.map Lib.upperB, 0⟩] := by
  intro rest n hr
  obtain ⟨h1, h2⟩ := takeWhile_stop w rest ha (fun c r' e => by subst e; exact hr.1)
  subst hx
  rw [List.cons_append]
  refine lex_tok1 (let_sp x hl) ?_ n
  unfold oneL
  rw [if_pos hl]
  unfold wordL
  rw [← List.cons_append, h1, h2, if_pos hk]
theorem lexes_name {w : Str} (h : NameOk w) : Lexes w [⟨2, w, 0⟩] := by
  intro rest n hr
  obtain ⟨hne, hl, ha, hlow, hk, h32⟩ := h
  obtain ⟨h1, h2⟩ := takeWhile_stop w rest ha (fun c r' e => by subst e; exact hr.1)
  obtain ⟨x, r, rfl⟩ := List.exists_cons_of_ne_nil hne
  rw [List.cons_append]
  refine lex_tok1 (let_sp x hl) ?_ n
  unfold oneL
  rw [if_pos (show letB x = true from hl)]
  unfold wordL
  rw [← List.cons_append, h1, h2, if_neg (by rw [hk]; exact Bool.false_ne_true), if_pos h32, hlow]
/-! numbers -/
theorem numL_app : ∀ (a b : Str) (n : Int), numL (a ++ b) n = (numL a n).bind (numL b)
  | [], _, _ => rfl
  | x :: a, b, n => by
    rw [List.cons_append]
    simp only [numL]
    split
    · rfl
    · exact numL_app a b _
theorem dec_num (u : Nat) : u ≤ 9223372036854775807 → numL (Lib.decDigits u) 0 = some (u : Int) ∧ (Lib.decDigits u).all digB = true ∧ Lib.decDigits u ≠ [] := by
  induction u using Nat.strongRecOn with
  | _ u ih =>
    intro hu
    have hd : ∀ d : Nat, d < 10 → digB (UInt8.ofNat (48 + d)) = true ∧ (UInt8.ofNat (48 + d)).toNat = 48 + d := by decide
    by_cases h : u < 10
    · rw [Lib.decDigits, dif_pos h]
      obtain ⟨h1, h2⟩ := hd u h
      refine ⟨?_, by rw [List.all_cons, List.all_nil, h1]; rfl, by simp⟩
      simp only [numL, h2]
      rw [if_neg (by omega)]
      congr 1
      omega
    · rw [Lib.decDigits, dif_neg h]
      obtain ⟨i1, i2, i3⟩ := ih (u / 10) (by omega) (by omega)
      obtain ⟨h1, h2⟩ := hd (u % 10) (by omega)
      refine ⟨?_, by rw [List.all_append, List.all_cons, List.all_nil, i2, h1]; rfl, by simp⟩
      rw [numL_app, i1]
      simp only [Option.bind, numL, h2]
      rw [if_neg (by omega)]
      congr 1
      omega
theorem lexes_num (u : Nat) (hu : u ≤ 9223372036854775807) : Lexes (Lib.decDigits u) [⟨3, [], u⟩] := by
  intro rest n hr
  obtain ⟨hn, ha, hne⟩ := dec_num u hu
  have hw : ∀ c r', rest = c :: r' → digB c = false ∧ letB c = false := fun c r' e => by
    subst e
    have := hr.1
    simp only [wordB, Bool.or_eq_false_iff] at this
    exact ⟨this.2, this.1⟩
  obtain ⟨h1, h2⟩ := takeWhile_stop (Lib.decDigits u) rest ha (fun c r' e => (hw c r' e).1)
  generalize Lib.decDigits u = w at *
  obtain ⟨x, r, rfl⟩ := List.exists_cons_of_ne_nil hne
  have hx : digB x = true := by simp only [List.all_cons, Bool.and_eq_true] at ha; exact ha.1
  obtain ⟨hs, hlet⟩ := dig_sp x hx
  rw [List.cons_append]
  refine lex_tok1 hs ?_ n
  unfold oneL
  rw [if_neg (by simp [hlet]), if_pos hx]
  unfold numberL
  rw [← List.cons_append, h1, h2, hn]
  have : headLet rest = false := by
    cases rest with
    | nil => rfl
    | cons c r' => exact (hw c r' rfl).2
  simp [this]
/-! texts -/
theorem textL_dbl (rest : Str) (hr : ∀ c r', rest = c :: r' → c ≠ 39) : ∀ (s b : Str), (b ++ s).length ≤ 64 → textL (dbl s ++ 39 :: rest) b = some (b ++ s, rest)
  | [], b, h => by
    rw [List.append_nil] at h
    simp only [dbl, List.nil_append, List.append_nil]
    unfold textL
    cases rest with
    | nil => simp [h]
    | cons c r' => have := hr c r' rfl; simp [this, h]
  | x :: s, b, h => by
    have h' : ((b ++ [x]) ++ s).length ≤ 64 := by simpa using h
    have ih := textL_dbl rest hr s (b ++ [x]) h'
    simp only [dbl]
    split
    · rename_i hx
      subst hx
      rw [List.cons_append, List.cons_append]
      unfold textL
      simp only [beq_self_eq_true, if_true]
      rw [ih]
      simp
    · rename_i hx
      rw [List.cons_append]
      unfold textL
      simp only [beq_iff_eq, hx, if_false]
      rw [ih]
      simp
theorem lexes_text (s : Str) (h : s.length ≤ 64) : Lexes (39 :: (dbl s ++ [39])) [⟨4, s, 0⟩] := by
  intro rest n hr
  rw [List.cons_append]
  refine lex_tok1 (by decide) ?_ n
  unfold oneL
  rw [if_neg (by decide), if_neg (by decide), if_pos (by decide)]
  unfold quoteL
  rw [List.append_assoc, List.singleton_append, textL_dbl rest (fun c r' e => by subst e; exact hr.2) s [] (by simpa using h)]
  rfl
/-! signs -/
def freeSign (a : UInt8) : Bool := (List.range 256).all fun b => !isSg [a, UInt8.ofNat b]
theorem lexes_sign1 (a : UInt8) (h : freeSign a = true) (hs : isSg [a] = true) (ho : (letB a || digB a || a == 39 || spB a) = false) (rest : Str) (n : Nat) : lexAll (1 + n) (a :: rest) = consL [⟨5, [a], 0⟩] (lexAll n rest) := by
  simp only [Bool.or_eq_false_iff] at ho
  obtain ⟨⟨⟨h1, h2⟩, h3⟩, h4⟩ := ho
  refine lex_tok1 h4 ?_ n
  unfold oneL
  rw [if_neg (by simp [h1]), if_neg (by simp [h2]), if_neg (by simp [h3])]
  unfold signL
  cases rest with
  | nil => simp [hs]
  | cons b r =>
    have : isSg [a, b] = false := by
      unfold freeSign at h
      have := List.all_eq_true.1 h b.toNat (List.mem_range.2 b.toNat_lt)
      simpa using this
    simp [this, hs]
/-- a sign ahead of a space -/
theorem lexes_signsp (s : Str) (hs : ∀ rest, signL (s ++ 32 :: rest) = some (⟨5, s, 0⟩, 32 :: rest)) (x : UInt8) (r : Str) (hx : s = x :: r) (ho : (letB x || digB x || x == 39 || spB x) = false) (rest : Str) (n : Nat) : lexAll (1 + n) (s ++ 32 :: rest) = consL [⟨5, s, 0⟩] (lexAll n rest) := by
  subst hx
  simp only [Bool.or_eq_false_iff] at ho
  obtain ⟨⟨⟨h1, h2⟩, h3⟩, h4⟩ := ho
  rw [← lex_space n rest, List.cons_append]
  refine lex_tok1 h4 ?_ n
  unfold oneL
  rw [if_neg (by simp [h1]), if_neg (by simp [h2]), if_neg (by simp [h3])]
  exact hs rest
/-! the text of a tree is cut into its tokens -/
theorem itoa_nat (n : Nat) : Lib.itoa (n : Int) = Lib.decDigits n := by
  unfold Lib.itoa
  rw [if_neg (by omega)]
  rfl
theorem lexes_null : Lexes sNULL [⟨1, sNULL, 0⟩] := lexes_kw sNULL _ _ rfl (by decide) (by decide) (by decide +kernel)
theorem lexes_lit {v : Val} (h : LitOk v) : Lexes (showL v) [litT v] := by
  rcases h with rfl | ⟨n, hn, rfl⟩ | rfl | rfl | ⟨s, hs, rfl⟩
  · exact lexes_null
  · show Lexes (Lib.itoa (n : Int)) [⟨3, [], (n : Int)⟩]
    rw [itoa_nat]
    exact lexes_num n hn
  · exact lexes_kw sFALSE _ _ rfl (by decide) (by decide) (by decide +kernel)
  · exact lexes_kw sTRUE _ _ rfl (by decide) (by decide) (by decide +kernel)
  · exact lexes_text s hs
theorem lexes_par (b : Bool) {s : Str} {ts : List Tok} (h : Lexes s ts) : Lexes (parS b s) (parT b ts) := by
  cases b with
  | true => exact h
  | false =>
    intro rest n hr
    show lexAll ((ts ++ [(⟨5, [41], 0⟩ : Tok)]).length + 1 + n) (40 :: (s ++ [41]) ++ rest) = _
    rw [show (ts ++ [(⟨5, [41], 0⟩ : Tok)]).length + 1 + n = 1 + (ts.length + (1 + n)) by rw [List.length_append]; simp; omega]
    rw [List.cons_append, List.append_assoc, lexes_sign1 40 (by decide +kernel) (by decide +kernel) (by decide), h ([41] ++ rest) _ (show Sep (41 :: rest) from ⟨rfl, by decide⟩), List.singleton_append, lexes_sign1 41 (by decide +kernel) (by decide +kernel) (by decide), consL_app, consL_app]
    rfl
theorem op_cases {k : Int} (h : 5 ≤ k ∧ k ≤ 17) : k = 5 ∨ k = 6 ∨ k = 7 ∨ k = 8 ∨ k = 9 ∨ k = 10 ∨ k = 11 ∨ k = 12 ∨ k = 13 ∨ k = 14 ∨ k = 15 ∨ k = 16 ∨ k = 17 := by omega
theorem sign1_sp (a : UInt8) (h : freeSign a = true) (hs : isSg [a] = true) (rest : Str) : signL ([a] ++ 32 :: rest) = some (⟨5, [a], 0⟩, 32 :: rest) := by
  have : isSg [a, 32] = false := by
    unfold freeSign at h
    have := List.all_eq_true.1 h 32 (by decide)
    simpa using this
  simp [signL, this, hs]
theorem sign1_at (a : UInt8) (h : isSg [a, 32] = false) (hs : isSg [a] = true) (rest : Str) : signL ([a] ++ 32 :: rest) = some (⟨5, [a], 0⟩, 32 :: rest) := by
  simp [signL, h, hs]
theorem sign2_at (a b : UInt8) (h : isSg [a, b] = true) (rest : Str) : signL ([a, b] ++ 32 :: rest) = some (⟨5, [a, b], 0⟩, 32 :: rest) := by
  simp [signL, h]
theorem lex_sgn {k : Int} (h : 5 ≤ k ∧ k ≤ 17) (rest : Str) (n : Nat) : lexAll (1 + n) (signOf k ++ 32 :: rest) = consL [opT k] (lexAll n rest) := by
  rcases op_cases h with rfl | rfl | rfl | rfl | rfl | rfl | rfl | rfl | rfl | rfl | rfl | rfl | rfl
  · exact lexes_signsp [43] (sign1_at 43 (by decide +kernel) (by decide +kernel)) _ _ rfl (by decide) rest n
  · exact lexes_signsp [45] (sign1_at 45 (by decide +kernel) (by decide +kernel)) _ _ rfl (by decide) rest n
  · exact lexes_signsp [42] (sign1_at 42 (by decide +kernel) (by decide +kernel)) _ _ rfl (by decide) rest n
  · exact lexes_signsp [47] (sign1_at 47 (by decide +kernel) (by decide +kernel)) _ _ rfl (by decide) rest n
  · exact lexes_signsp [37] (sign1_at 37 (by decide +kernel) (by decide +kernel)) _ _ rfl (by decide) rest n
  · exact lexes_signsp [61] (sign1_at 61 (by decide +kernel) (by decide +kernel)) _ _ rfl (by decide) rest n
  · exact lexes_signsp [60, 62] (sign2_at 60 62 (by decide +kernel)) _ _ rfl (by decide) rest n
  · exact lexes_signsp [60] (sign1_at 60 (by decide +kernel) (by decide +kernel)) _ _ rfl (by decide) rest n
  · exact lexes_signsp [60, 61] (sign2_at 60 61 (by decide +kernel)) _ _ rfl (by decide) rest n
  · exact lexes_signsp [62] (sign1_at 62 (by decide +kernel) (by decide +kernel)) _ _ rfl (by decide) rest n
  · exact lexes_signsp [62, 61] (sign2_at 62 61 (by decide +kernel)) _ _ rfl (by decide) rest n
  · have := lexes_kw sAND _ _ rfl (by decide) (by decide) (by decide +kernel) (32 :: rest) n (sep_sp [] rest)
    rw [lex_space] at this
    exact this
  · have := lexes_kw sOR _ _ rfl (by decide) (by decide) (by decide +kernel) (32 :: rest) n (sep_sp [] rest)
    rw [lex_space] at this
    exact this
theorem lexes_is : Lexes sIS [⟨1, sIS, 0⟩] := lexes_kw sIS _ _ rfl (by decide) (by decide) (by decide +kernel)
theorem lexes_not : Lexes sNOT [⟨1, sNOT, 0⟩] := lexes_kw sNOT _ _ rfl (by decide) (by decide) (by decide +kernel)
theorem lexes_print : ∀ x : Ex, PrintOk x → Lexes (printL x) (toksL x)
  | .val v, h => lexes_lit h
  | .col t n, ⟨ht, hn⟩ => by
    rcases ht with rfl | ht
    · exact lexes_name hn
    · have e : t.isEmpty = false := by cases t with | nil => exact absurd rfl ht.1 | cons _ _ => rfl
      intro rest m hr
      simp only [printL, toksL, e, Bool.false_eq_true, if_false]
      show lexAll (1 + 1 + 1 + m) _ = _
      rw [List.append_assoc, List.cons_append, show 1 + 1 + 1 + m = 1 + (1 + (1 + m)) by omega]
      have h1 := lexes_name ht (46 :: (n ++ rest)) (1 + (1 + m)) ⟨rfl, by decide⟩
      have h2 := lexes_name hn rest m hr
      rw [show ([⟨2, t, 0⟩] : List Tok).length = 1 from rfl] at h1
      rw [show ([⟨2, n, 0⟩] : List Tok).length = 1 from rfl] at h2
      rw [h1, lexes_sign1 46 (by decide +kernel) (by decide +kernel) (by decide), h2, consL_app, consL_app]
      rfl
  | .slot _, h => h.elim
  | .cnt, h => h.elim
  | .un k a, ⟨hk, ha⟩ => by
    have ih := lexes_par a.leaf (lexes_print a ha)
    rcases hk with rfl | rfl | rfl | rfl
    · intro rest n hr
      show lexAll ((parT a.leaf (toksL a)).length + 1 + n) (45 :: (parS a.leaf (printL a)) ++ rest) = consL (⟨5, [45], 0⟩ :: parT a.leaf (toksL a)) _
      rw [show (parT a.leaf (toksL a)).length + 1 + n = 1 + ((parT a.leaf (toksL a)).length + n) by omega, List.cons_append, lexes_sign1 45 (by decide +kernel) (by decide +kernel) (by decide), ih rest n hr, consL_app]
      rfl
    · exact lexes_not.app ih.sp fun rest _ => sep_sp _ rest
    · exact ih.app (lexes_is.app lexes_null.sp fun rest _ => sep_sp _ rest).sp fun rest _ => sep_sp _ rest
    · exact ih.app (lexes_is.app (lexes_not.app lexes_null.sp fun rest _ => sep_sp _ rest).sp fun rest _ => sep_sp _ rest).sp fun rest _ => sep_sp _ rest
  | .bin k a b, ⟨hk, ha, hb⟩ => by
    have i1 := lexes_par a.leaf (lexes_print a ha)
    have i2 := lexes_par b.leaf (lexes_print b hb)
    intro rest n hr
    show lexAll ((parT a.leaf (toksL a) ++ opT k :: parT b.leaf (toksL b)).length + n) ((parS a.leaf (printL a) ++ 32 :: (signOf k ++ 32 :: parS b.leaf (printL b))) ++ rest) = consL (parT a.leaf (toksL a) ++ opT k :: parT b.leaf (toksL b)) _
    generalize parT a.leaf (toksL a) = A at *
    generalize parT b.leaf (toksL b) = B at *
    rw [List.append_assoc, List.cons_append, List.append_assoc, List.cons_append, show (A ++ opT k :: B).length + n = A.length + (1 + (B.length + n)) by rw [List.length_append, List.length_cons]; omega]
    have e1 := i1 (32 :: (signOf k ++ 32 :: (parS b.leaf (printL b) ++ rest))) (1 + (B.length + n)) ⟨rfl, by decide⟩
    rw [e1, lex_space, lex_sgn hk, i2 rest n hr, consL_app, consL_app]
    congr 1
    simp
theorem lit_len {v : Val} (h : LitOk v) : 1 ≤ (showL v).length := by
  rcases h with rfl | ⟨n, hn, rfl⟩ | rfl | rfl | ⟨s, hs, rfl⟩
  · decide
  · show 1 ≤ (Lib.itoa (n : Int)).length
    rw [itoa_nat]
    exact List.length_pos_iff.2 (dec_num n hn).2.2
  · decide
  · decide
  · show 1 ≤ (39 :: (dbl s ++ [39])).length
    simp
theorem par_len (b : Bool) {s : Str} {ts : List Tok} (h : ts.length ≤ s.length) : (parT b ts).length ≤ (parS b s).length := by
  cases b with
  | true => exact h
  | false => show (_ :: (ts ++ [_])).length ≤ (40 :: (s ++ [41])).length; simp; omega
theorem sign_len (k : Int) : 1 ≤ (signOf k).length := by
  unfold signOf
  repeat' split
  all_goals decide
theorem toks_len : ∀ x : Ex, PrintOk x → (toksL x).length ≤ (printL x).length
  | .val v, h => lit_len h
  | .col t n, ⟨ht, hn⟩ => by
    have h2 : 1 ≤ n.length := List.length_pos_iff.2 hn.1
    rcases ht with rfl | ht
    · exact h2
    · have e : t.isEmpty = false := by cases t with | nil => exact absurd rfl ht.1 | cons _ _ => rfl
      have h1 : 1 ≤ t.length := List.length_pos_iff.2 ht.1
      simp only [printL, toksL, e, Bool.false_eq_true, if_false, List.length_append, List.length_cons, List.length_nil]
      omega
  | .slot _, h => h.elim
  | .cnt, h => h.elim
  | .un k a, ⟨hk, ha⟩ => by
    have ih := par_len a.leaf (toks_len a ha)
    rcases hk with rfl | rfl | rfl | rfl
    · show (_ :: parT a.leaf (toksL a)).length ≤ (45 :: parS a.leaf (printL a)).length
      simp only [List.length_cons]; omega
    · show (_ :: parT a.leaf (toksL a)).length ≤ (sNOT ++ 32 :: parS a.leaf (printL a)).length
      simp only [List.length_cons, List.length_append]; omega
    · show (parT a.leaf (toksL a) ++ [_, _]).length ≤ (parS a.leaf (printL a) ++ 32 :: (sIS ++ 32 :: sNULL)).length
      simp only [List.length_cons, List.length_append, List.length_nil]; omega
    · show (parT a.leaf (toksL a) ++ [_, _, _]).length ≤ (parS a.leaf (printL a) ++ 32 :: (sIS ++ 32 :: (sNOT ++ 32 :: sNULL))).length
      simp only [List.length_cons, List.length_append, List.length_nil]; omega
  | .bin k a b, ⟨hk, ha, hb⟩ => by
    have i1 := par_len a.leaf (toks_len a ha)
    have i2 := par_len b.leaf (toks_len b hb)
    have := sign_len k
    show (parT a.leaf (toksL a) ++ _ :: parT b.leaf (toksL b)).length ≤ (parS a.leaf (printL a) ++ 32 :: (signOf k ++ 32 :: parS b.leaf (printL b))).length
    simp only [List.length_cons, List.length_append]; omega
end Go.Proofs.YtnbckfkdmkbopaaGreatDoor
