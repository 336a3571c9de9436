/-
  The shelf's contracts of Go's library, laid at this program. No condition beyond each contract's own.
  value.Show: a value's text. Conditions: the value is one that a text can bear; the library's variables stand.
  print.operand: an expression within another one. Conditions: the tree is one that can be printed, no higher than 32; the caller hands print.Expr's own contract at it.
-/
import Derived.Shelf.Strings.OnBuilder
import Derived.Shelf.Small.Wraps
import Derived.Shelf.Strconv.Itoa4
import Derived.Shelf.Strings.Replace
import Derived.Test.YtnbckfkdmkbopaaGreatDoorProg
import Derived.KernelRfl
import Derived.Test.YtnbckfkdmkbopaaGreatDoorTH45
import Derived.Test.YtnbckfkdmkbopaaGreatDoorTH18
import Derived.Test.YtnbckfkdmkbopaaGreatDoorTH30
import Derived.Test.YtnbckfkdmkbopaaGreatDoorTH36
set_option autoImplicit false
namespace Go.Proofs.YtnbckfkdmkbopaaGreatDoor
open Go Go.Shelf

def lays121_ren : Go.Shelf.Ren := ⟨fun | 121 => 61 | 214 => 93 | n => n, fun | 4 => 4 | 9 => 9 | n => n, fun | n => n⟩
theorem lays121 : Go.Proofs.Lays.n121 Tryz.prog lays121_ren := {
  mixed := by kernel_rfl
  f121 := Tryz.func61.trans (congrArg some (by kernel_rfl))
  f214 := Tryz.func93.trans (congrArg some (by kernel_rfl))
  t4 := Tryz.underlying4
  a4 := Tryz.isAgg4
  z4 := Tryz.sizeOf4
  v4 := Tryz.zeroValue4
  t9 := Tryz.underlying9
  a9 := Tryz.isAgg9
  z9 := Tryz.sizeOf9
  v9 := Tryz.zeroValue9 }
open Go.RowKit in
/-- strconv.FormatBool: "FormatBool returns "true" or "false" according to the value of b.": IT RETURNS 'Lib.formatBool b'; the world is as it was. (LAID: no walk: one application.) -/
theorem strconv_FormatBool (b : Bool) (w : World) :
    Calls Tryz.prog 61 #[.bool b] w fun e w' => e = .returned (.string ⟨(Lib.formatBool b).toArray⟩) ∧ w' = w := Any.strconv_FormatBool lays121 b w
def laysM173_ren : Go.Shelf.Ren := ⟨fun | 173 => 59 | 246 => 89 | 283 => 129 | 284 => 130 | 285 => 131 | 286 => 132 | 129 => 152 | 317 => 151 | 318 => 153 | 319 => 154 | 320 => 155 | 337 => 168 | 338 => 169 | n => n, fun | 2 => 2 | 3 => 3 | 9 => 9 | 4 => 4 | 171 => 208 | 0 => 0 | 53 => 203 | 37 => 157 | 5 => 5 | 173 => 211 | 212 => 226 | 51 => 200 | 20 => 20 | 213 => 227 | 46 => 150 | 232 => 250 | 233 => 251 | n => n, fun | 17 => 0 | 18 => 7 | 19 => 8 | n => n⟩
theorem laysM173 : Go.Proofs.LaysM.n173 Tryz.prog laysM173_ren := {
  mixed := by kernel_rfl
  f129 := Tryz.func152.trans (congrArg some (by kernel_rfl))
  f173 := Tryz.func59.trans (congrArg some (by kernel_rfl))
  f246 := Tryz.func89.trans (congrArg some (by kernel_rfl))
  f283 := Tryz.func129.trans (congrArg some (by kernel_rfl))
  f284 := Tryz.func130.trans (congrArg some (by kernel_rfl))
  f285 := Tryz.func131.trans (congrArg some (by kernel_rfl))
  f286 := Tryz.func132.trans (congrArg some (by kernel_rfl))
  f317 := Tryz.func151.trans (congrArg some (by kernel_rfl))
  f318 := Tryz.func153.trans (congrArg some (by kernel_rfl))
  f319 := Tryz.func154.trans (congrArg some (by kernel_rfl))
  f320 := Tryz.func155.trans (congrArg some (by kernel_rfl))
  f337 := Tryz.func168.trans (congrArg some (by kernel_rfl))
  f338 := Tryz.func169.trans (congrArg some (by kernel_rfl))
  t0 := Tryz.underlying0
  a0 := Tryz.isAgg0
  z0 := Tryz.sizeOf0
  v0 := Tryz.zeroValue0
  t2 := Tryz.underlying2
  a2 := Tryz.isAgg2
  z2 := Tryz.sizeOf2
  v2 := Tryz.zeroValue2
  t3 := Tryz.underlying3
  a3 := Tryz.isAgg3
  z3 := Tryz.sizeOf3
  v3 := Tryz.zeroValue3
  t4 := Tryz.underlying4
  a4 := Tryz.isAgg4
  z4 := Tryz.sizeOf4
  v4 := Tryz.zeroValue4
  t5 := Tryz.underlying5
  a5 := Tryz.isAgg5
  z5 := Tryz.sizeOf5
  v5 := Tryz.zeroValue5
  t9 := Tryz.underlying9
  a9 := Tryz.isAgg9
  z9 := Tryz.sizeOf9
  v9 := Tryz.zeroValue9
  t20 := Tryz.underlying20
  a20 := Tryz.isAgg20
  z20 := Tryz.sizeOf20
  v20 := Tryz.zeroValue20
  t37 := Tryz.underlying157
  a37 := Tryz.isAgg157
  z37 := Tryz.sizeOf157
  v37 := Tryz.zeroValue157
  t46 := Tryz.underlying150
  a46 := Tryz.isAgg150
  z46 := Tryz.sizeOf150
  v46 := Tryz.zeroValue150
  t51 := Tryz.underlying200
  a51 := Tryz.isAgg200
  z51 := Tryz.sizeOf200
  v51 := Tryz.zeroValue200
  t53 := Tryz.underlying203
  a53 := Tryz.isAgg203
  z53 := Tryz.sizeOf203
  v53 := Tryz.zeroValue203
  t171 := Tryz.underlying208
  a171 := Tryz.isAgg208
  z171 := Tryz.sizeOf208
  v171 := Tryz.zeroValue208
  t173 := Tryz.underlying211
  a173 := Tryz.isAgg211
  z173 := Tryz.sizeOf211
  v173 := Tryz.zeroValue211
  t212 := Tryz.underlying226
  a212 := Tryz.isAgg226
  z212 := Tryz.sizeOf226
  v212 := Tryz.zeroValue226
  t213 := Tryz.underlying227
  a213 := Tryz.isAgg227
  z213 := Tryz.sizeOf227
  t232 := Tryz.underlying250
  a232 := Tryz.isAgg250
  z232 := Tryz.sizeOf250
  v232 := Tryz.zeroValue250
  t233 := Tryz.underlying251
  a233 := Tryz.isAgg251
  z233 := Tryz.sizeOf251
  v233 := Tryz.zeroValue251
  g17 := by kernel_rfl
  g18 := by kernel_rfl
  g19 := by kernel_rfl
  i0 := by kernel_rfl
  i2 := by kernel_rfl
  i3 := by kernel_rfl
  i4 := by kernel_rfl
  i5 := by kernel_rfl
  i9 := by kernel_rfl
  i20 := by kernel_rfl
  i37 := by kernel_rfl
  i46 := by kernel_rfl
  i51 := by kernel_rfl
  i53 := by kernel_rfl
  i171 := by kernel_rfl
  i173 := by kernel_rfl
  i212 := by kernel_rfl
  i232 := by kernel_rfl
  i233 := by kernel_rfl
  m17 := by kernel_rfl
  m18 := by kernel_rfl
  m19 := by kernel_rfl }
open Go.RowKit Go.Sort Go.Lib in
/-- strconv.FormatInt: "FormatInt returns the string representation of i in the given base": AT BASE 10: i's decimal numeral, for every int64. (LAID: no walk: one application.) -/
theorem strconv_FormatInt_10 (n : Int) (h0 : -9223372036854775808 ≤ n) (h1 : n ≤ 9223372036854775807) (w : World) (htab : Lib.TabIs Tryz.prog w "internal/strconv.uint64pow10" .u64 Lib.pow10Tab) :
    Calls Tryz.prog 59 #[.int .i64 n, .int .i64 10] w fun e w' => e = .returned (.string ⟨(Lib.itoa n).toArray⟩) ∧ ∃ k os, w' = grow (w.drewN k) os := Any.strconv_FormatInt_10 laysM173 n h0 h1 w htab
def lays155_ren : Go.Shelf.Ren := ⟨fun | 155 => 62 | 154 => 94 | 138 => 138 | 165 => 79 | 143 => 139 | 166 => 80 | 197 => 133 | 169 => 82 | 195 => 159 | 218 => 160 | 240 => 126 | 241 => 127 | 219 => 161 | 260 => 156 | 276 => 149 | 277 => 150 | 217 => 140 | 225 => 173 | 224 => 174 | 267 => 175 | 266 => 162 | 314 => 178 | n => n, fun | 9 => 9 | 3 => 3 | 4 => 4 | 72 => 159 | 0 => 0 | 76 => 163 | 105 => 213 | 21 => 21 | 5 => 5 | 70 => 156 | 20 => 20 | 37 => 157 | 75 => 162 | 127 => 206 | 164 => 222 | 46 => 150 | 119 => 234 | 139 => 241 | 138 => 240 | 146 => 201 | 51 => 200 | 80 => 166 | n => n, fun | 1 => 3 | 3 => 4 | 4 => 5 | n => n⟩
theorem lays155 : Go.Proofs.Lays.n155 Tryz.prog lays155_ren := {
  mixed := by kernel_rfl
  f138 := Tryz.func138.trans (congrArg some (by kernel_rfl))
  f143 := Tryz.func139.trans (congrArg some (by kernel_rfl))
  f154 := Tryz.func94.trans (congrArg some (by kernel_rfl))
  f155 := Tryz.func62.trans (congrArg some (by kernel_rfl))
  f165 := Tryz.func79.trans (congrArg some (by kernel_rfl))
  f166 := Tryz.func80.trans (congrArg some (by kernel_rfl))
  f169 := Tryz.func82.trans (congrArg some (by kernel_rfl))
  f195 := Tryz.func159.trans (congrArg some (by kernel_rfl))
  f197 := Tryz.func133.trans (congrArg some (by kernel_rfl))
  f217 := Tryz.func140.trans (congrArg some (by kernel_rfl))
  f218 := Tryz.func160.trans (congrArg some (by kernel_rfl))
  f219 := Tryz.func161.trans (congrArg some (by kernel_rfl))
  f224 := Tryz.func174.trans (congrArg some (by kernel_rfl))
  f225 := Tryz.func173.trans (congrArg some (by kernel_rfl))
  f240 := Tryz.func126.trans (congrArg some (by kernel_rfl))
  f241 := Tryz.func127.trans (congrArg some (by kernel_rfl))
  f260 := Tryz.func156.trans (congrArg some (by kernel_rfl))
  f266 := Tryz.func162.trans (congrArg some (by kernel_rfl))
  f267 := Tryz.func175.trans (congrArg some (by kernel_rfl))
  f276 := Tryz.func149.trans (congrArg some (by kernel_rfl))
  f277 := Tryz.func150.trans (congrArg some (by kernel_rfl))
  f314 := Tryz.func178.trans (congrArg some (by kernel_rfl))
  t0 := Tryz.underlying0
  a0 := Tryz.isAgg0
  z0 := Tryz.sizeOf0
  v0 := Tryz.zeroValue0
  t3 := Tryz.underlying3
  a3 := Tryz.isAgg3
  z3 := Tryz.sizeOf3
  v3 := Tryz.zeroValue3
  t4 := Tryz.underlying4
  a4 := Tryz.isAgg4
  z4 := Tryz.sizeOf4
  v4 := Tryz.zeroValue4
  t5 := Tryz.underlying5
  a5 := Tryz.isAgg5
  z5 := Tryz.sizeOf5
  v5 := Tryz.zeroValue5
  t9 := Tryz.underlying9
  a9 := Tryz.isAgg9
  z9 := Tryz.sizeOf9
  v9 := Tryz.zeroValue9
  t20 := Tryz.underlying20
  a20 := Tryz.isAgg20
  z20 := Tryz.sizeOf20
  v20 := Tryz.zeroValue20
  t21 := Tryz.underlying21
  a21 := Tryz.isAgg21
  z21 := Tryz.sizeOf21
  v21 := Tryz.zeroValue21
  t37 := Tryz.underlying157
  a37 := Tryz.isAgg157
  z37 := Tryz.sizeOf157
  v37 := Tryz.zeroValue157
  t46 := Tryz.underlying150
  a46 := Tryz.isAgg150
  z46 := Tryz.sizeOf150
  v46 := Tryz.zeroValue150
  t51 := Tryz.underlying200
  a51 := Tryz.isAgg200
  z51 := Tryz.sizeOf200
  v51 := Tryz.zeroValue200
  t70 := Tryz.underlying156
  a70 := Tryz.isAgg156
  z70 := Tryz.sizeOf156
  v70 := Tryz.zeroValue156
  t72 := Tryz.underlying159
  a72 := Tryz.isAgg159
  z72 := Tryz.sizeOf159
  v72 := Tryz.zeroValue159
  t75 := Tryz.underlying162
  a75 := Tryz.isAgg162
  z75 := Tryz.sizeOf162
  v75 := Tryz.zeroValue162
  t76 := Tryz.underlying163
  a76 := Tryz.isAgg163
  z76 := Tryz.sizeOf163
  v76 := Tryz.zeroValue163
  t105 := Tryz.underlying213
  a105 := Tryz.isAgg213
  z105 := Tryz.sizeOf213
  v105 := Tryz.zeroValue213
  t119 := Tryz.underlying234
  a119 := Tryz.isAgg234
  z119 := Tryz.sizeOf234
  t127 := Tryz.underlying206
  a127 := Tryz.isAgg206
  z127 := Tryz.sizeOf206
  v127 := Tryz.zeroValue206
  t138 := Tryz.underlying240
  a138 := Tryz.isAgg240
  z138 := Tryz.sizeOf240
  v138 := Tryz.zeroValue240
  t139 := Tryz.underlying241
  a139 := Tryz.isAgg241
  z139 := Tryz.sizeOf241
  v139 := Tryz.zeroValue241
  t146 := Tryz.underlying201
  a146 := Tryz.isAgg201
  z146 := Tryz.sizeOf201
  v146 := Tryz.zeroValue201
  t164 := Tryz.underlying222
  a164 := Tryz.isAgg222
  z164 := Tryz.sizeOf222
  v164 := Tryz.zeroValue222
  g1 := by kernel_rfl
  g3 := by kernel_rfl
  g4 := by kernel_rfl }
theorem Builder_Extra_155 : Builder.Extra Tryz.prog lays155_ren := {
  sizeBuilder := by kernel_rfl
  liesBuilder := by kernel_rfl
  t5 := Tryz.underlying5
  a5 := Tryz.isAgg5
  z5 := Tryz.sizeOf5
  v5 := Tryz.zeroValue5
  infoByte := by kernel_rfl
  cellsByte := by kernel_rfl
  sizeByte := by kernel_rfl
  neB5 := by decide }
open Go.RowKit Go.Lib in
/-- strings.ReplaceAll: "ReplaceAll returns a copy of the string s with all non-overlapping instances of old replaced by new.": AT AN old THAT IS NOT EMPTY: 'Lib.replaceAll s old new'. (LAID: no walk: one application.) -/
theorem strings_ReplaceAll (s old new : ByteArray) (m : Int) (w : World) (hs : s.size < 4294967281) (hm : w.cell? ⟨3, 0, none⟩ = some (.int .i64 m)) (h1 : 1 ≤ old.size) (hlen : s.size + Lib.countB s old * new.size ≤ 140737488355328) :
    Calls Tryz.prog 62 #[.string s, .string old, .string new] w fun e w' =>
      e = .returned (.string ⟨(Lib.replaceAll s.data.toList old.data.toList new.data.toList).toArray⟩) ∧ Below w.heap.size w w' := Any.strings_ReplaceAll lays155 Builder_Extra_155 s old new m w hs hm h1 hlen
end Go.Proofs.YtnbckfkdmkbopaaGreatDoor

set_option autoImplicit false
namespace Go.Proofs.YtnbckfkdmkbopaaGreatDoor
open Go Go.RowKit

/-- the library's variables, with the tables of numbers' texts -/
structure GlobT (w : World) : Prop where
  g : Glob w
  p : Lib.TabIs Tryz.prog w "internal/strconv.uint64pow10" .u64 Lib.pow10Tab
theorem GlobT.quiet {w w' : World} (h : GlobT w) (c : Chg NoB w w') : GlobT w' := by
  refine ⟨h.g.quiet c, ?_⟩
  have hp := h.p
  unfold Lib.TabIs World.var? at hp ⊢
  cases hg : Tryz.prog.globalNamed "internal/strconv.uint64pow10" with
  | none => rw [hg] at hp; cases hp
  | some g =>
    rw [hg] at hp
    simp only [Option.bind_some] at hp ⊢
    have hlt : g < w.heap.size := by
      rcases Nat.lt_or_ge g w.heap.size with h' | h'
      · exact h'
      · rw [Array.getElem?_eq_none_iff.2 h'] at hp; cases hp
    rw [c.keep g hlt (fun h => h)]
    exact hp
theorem grown_chg (w : World) (k : Nat) (os : Array Obj) : Chg NoB w (Go.Sort.grow (w.drewN k) os) :=
  ⟨rfl, rfl, rfl, by simp [Go.Sort.grow, World.drewN], fun x hx _ => by
    show (w.heap ++ os)[x]? = w.heap[x]?
    rw [Array.getElem?_append_left hx]⟩
theorem show_ok {v : Val} (h : LitOk v) : okV v = true := by
  rcases h with rfl | ⟨n, hn, rfl⟩ | rfl | rfl | ⟨s, hs, rfl⟩
  · rfl
  · rfl
  · rfl
  · rfl
  · simp [okV, hs]
theorem up_bool (b : Bool) : Lib.toUpperA (Lib.formatBool b) = if b then sTRUE else sFALSE := by
  cases b
  · decide +kernel
  · decide +kernel
theorem asc_bool (b : Bool) : ∀ x ∈ Lib.formatBool b, x.toNat < 128 := by
  cases b
  · decide +kernel
  · decide +kernel
set_option maxRecDepth 100000 in
theorem show_any (v : Val) (h : LitOk v) (w : World) (hg : GlobT w) : Calls Tryz.prog 35 #[v.val] w fun e w' => e = .returned (sv (showL v)) ∧ Chg NoB w w' := by
  have HO : Hid (∀ W, Calls Tryz.prog 44 #[v.val] W fun e w' => e = .returned (.bool true) ∧ Chg NoB W w') := Lib.hid fun W => by
    have := ok_any v W
    rwa [show_ok h] at this
  have HG := Lib.hid hg
  clear hg
  have HB : Hid (∃ b1, b1 = w.alloc v.obj ∧ b1.heap[w.heap.size]? = some v.obj ∧ Chg NoB w b1) := Lib.hid ⟨_, rfl, hal_new, (Chg.refl NoB w).alloc _⟩
  obtain ⟨W1, hW1, hv1, hc1⟩ := HB.out
  have HV := Lib.hid hv1
  have HC := Lib.hid hc1
  clear HB hv1 hc1
  have HX : Hid (∀ w2, Chg NoB W1 w2 → w2.cell? ⟨w.heap.size, 0, none⟩ = some (.int .i64 v.kind) ∧ w2.cell? ⟨w.heap.size, 1, none⟩ = some (.int .i64 v.num) ∧ w2.cell? ⟨w.heap.size, 2, none⟩ = some (sv v.str) ∧ Chg NoB w w2) := Lib.hid fun w2 c => by
    have h2 := c.heap HV.out (fun h => h)
    exact ⟨cell_of_row w2 _ 0 _ _ _ h2, cell_of_row w2 _ 1 _ _ _ h2, cell_of_row w2 _ 2 _ _ _ h2, HC.out.trans c (fun _ h => .inl h)⟩
  rcases h with rfl | ⟨n, hn, rfl⟩ | rfl | rfl | ⟨s, hs, rfl⟩
  · go_enter Tryz.func35, Tryz.ntmps35
    obtain ⟨q0, q1, q2, _⟩ := HX.out W1 (Chg.refl _ _)
    subst hW1
    go_wp2_with fail
    refine (HO.out _).mono ?_
    rintro e w2 ⟨rfl, c2⟩
    clear q0 q1 q2
    obtain ⟨q0, q1, q2, c⟩ := HX.out w2 c2
    have C := Lib.hid c
    clear c2 c
    go_wp2_with fail
    go_ret
    exact ⟨rfl, C.out⟩
  · go_enter Tryz.func35, Tryz.ntmps35
    obtain ⟨q0, q1, q2, _⟩ := HX.out W1 (Chg.refl _ _)
    subst hW1
    go_wp2_with fail
    refine (HO.out _).mono ?_
    rintro e w2 ⟨rfl, c2⟩
    clear q0 q1 q2
    obtain ⟨q0, q1, q2, c⟩ := HX.out w2 c2
    have C := Lib.hid c
    clear c2 c
    go_wp2_with fail
    refine (strconv_FormatInt_10 (n : Int) (by omega) (by omega) w2 (HG.out.quiet C.out).p).mono ?_
    rintro e w3 ⟨rfl, k, os, rfl⟩
    have C3 := Lib.hid (C.out.trans (grown_chg w2 k os) (fun _ h => .inl h))
    generalize Go.Sort.grow (w2.drewN k) os = w3 at C3 ⊢
    clear q0 q1 q2
    go_wp2_with fail
    go_ret
    exact ⟨rfl, C3.out⟩
  · go_enter Tryz.func35, Tryz.ntmps35
    obtain ⟨q0, q1, q2, _⟩ := HX.out W1 (Chg.refl _ _)
    subst hW1
    go_wp2_with fail
    refine (HO.out _).mono ?_
    rintro e w2 ⟨rfl, c2⟩
    clear q0 q1 q2
    obtain ⟨q0, q1, q2, c⟩ := HX.out w2 c2
    have C := Lib.hid c
    clear c2 c
    go_wp2_with fail
    refine (strconv_FormatBool false w2).mono ?_
    rintro e w3 ⟨rfl, rfl⟩
    go_wp2_with fail
    refine (strings_ToUpper_ascii ⟨(Lib.formatBool false).toArray⟩ _ (by decide +kernel) (fun j b hb => asc_bool false b (List.mem_of_getElem? (by simpa using hb)))).mono ?_
    rintro e w4 ⟨rfl, b4⟩
    have C4 := Lib.hid (C.out.trans (chg_of b4) (fun _ h => .inl h))
    clear b4 q0 q1 q2
    rw [show Lib.toUpperA (⟨(Lib.formatBool false).toArray⟩ : ByteArray).data.toList = sFALSE from up_bool false]
    go_wp2_with fail
    go_ret
    exact ⟨rfl, C4.out⟩
  · go_enter Tryz.func35, Tryz.ntmps35
    obtain ⟨q0, q1, q2, _⟩ := HX.out W1 (Chg.refl _ _)
    subst hW1
    go_wp2_with fail
    refine (HO.out _).mono ?_
    rintro e w2 ⟨rfl, c2⟩
    clear q0 q1 q2
    obtain ⟨q0, q1, q2, c⟩ := HX.out w2 c2
    have C := Lib.hid c
    clear c2 c
    go_wp2_with fail
    refine (strconv_FormatBool true w2).mono ?_
    rintro e w3 ⟨rfl, rfl⟩
    go_wp2_with fail
    refine (strings_ToUpper_ascii ⟨(Lib.formatBool true).toArray⟩ _ (by decide +kernel) (fun j b hb => asc_bool true b (List.mem_of_getElem? (by simpa using hb)))).mono ?_
    rintro e w4 ⟨rfl, b4⟩
    have C4 := Lib.hid (C.out.trans (chg_of b4) (fun _ h => .inl h))
    clear b4 q0 q1 q2
    rw [show Lib.toUpperA (⟨(Lib.formatBool true).toArray⟩ : ByteArray).data.toList = sTRUE from up_bool true]
    go_wp2_with fail
    go_ret
    exact ⟨rfl, C4.out⟩
  · have HD : Hid (Lib.replaceAll s [39] [39, 39] = dbl s) := Lib.hid (dbl_replace s)
    have hd : (dbl s).length ≤ 128 := by have := dbl_len s; omega
    have HM := Lib.hid HG.out.g.mx
    go_enter Tryz.func35, Tryz.ntmps35
    obtain ⟨q0, q1, q2, _⟩ := HX.out W1 (Chg.refl _ _)
    subst hW1
    go_wp2_with fail
    refine (HO.out _).mono ?_
    rintro e w2 ⟨rfl, c2⟩
    clear q0 q1 q2
    obtain ⟨q0, q1, q2, c⟩ := HX.out w2 c2
    have C := Lib.hid c
    clear c2 c
    obtain ⟨m, hm⟩ := (HG.out.quiet C.out).g.mx
    have HM2 := Lib.hid hm
    clear hm
    go_wp2_with fail
    refine (strings_ReplaceAll ⟨s.toArray⟩ ⟨#[39]⟩ ⟨#[39, 39]⟩ m w2 (by show s.toArray.size < _; simp; omega) HM2.out (by decide) ?_).mono ?_
    · have h1 : (⟨s.toArray⟩ : ByteArray).size = s.length := by show s.toArray.size = _; simp
      have h2 : Lib.countB ⟨s.toArray⟩ ⟨#[39]⟩ ≤ s.length + 1 := by
        have := Lib.count_le s [39]
        simpa [Lib.countB] using this
      have h3 : (⟨#[39, 39]⟩ : ByteArray).size = 2 := rfl
      rw [h1, h3]
      omega
    · rintro e w3 ⟨rfl, b3⟩
      have C3 := Lib.hid (C.out.trans (chg_of b3) (fun _ h => .inl h))
      clear b3 q0 q1 q2
      rw [show Lib.replaceAll (⟨s.toArray⟩ : ByteArray).data.toList (⟨#[39]⟩ : ByteArray).data.toList (⟨#[39, 39]⟩ : ByteArray).data.toList = dbl s from by simpa using HD.out]
      have hsz : (⟨(dbl s).toArray⟩ : ByteArray).size ≤ 128 := by show (dbl s).toArray.size ≤ _; simpa using hd
      go_wp2_with fail
      rotate_left
      go_ret
      refine ⟨?_, C3.out⟩
      have e1 := cat_sv [39] (dbl s)
      have e2 := cat_sv ([39] ++ dbl s) [39]
      rw [← e1] at e2
      exact congrArg (fun z => Ending.returned (Value.string z)) e2
end Go.Proofs.YtnbckfkdmkbopaaGreatDoor

set_option autoImplicit false
namespace Go.Proofs.YtnbckfkdmkbopaaGreatDoor
open Go Go.RowKit

theorem str_ok : ElemOk 55 9 1 16 := elem_ok Tryz.underlying55 (by kernel_rfl)
def opS (x : Ex) : Str := parS x.leaf (printL x)
theorem opS_len {x : Ex} (h : PrintOk x) (h2 : x.hgt ≤ 32) : (opS x).length ≤ 1000000000002 := by
  have h1 := print_len' h h2
  have h3 := parS_len x.leaf (printL x)
  unfold opS
  omega
theorem leaf_kids (x : Ex) : x.leaf = decide (x.kids.length = 0) := by cases x <;> rfl
theorem kind_lt {x : Ex} (h : PrintOk x) (hl : x.leaf = false) : x.kind < 20 := by
  cases x with
  | val v => cases hl
  | col t n => cases hl
  | slot n => cases hl
  | cnt => cases hl
  | un k a => obtain ⟨hk, _⟩ := h; show k < 20; omega
  | bin k a b => obtain ⟨hk, _⟩ := h; show k < 20; omega
theorem sz_sv (s : Str) : (⟨s.toArray⟩ : ByteArray).size = s.length := by show s.toArray.size = _; simp
set_option maxRecDepth 100000 in
theorem opnd_any (x : Ex) (E : ExF) (F : Nat → Prop) (w : World) (hx : ExAt w F x E) (hok : PrintOk x) (h32 : x.hgt ≤ 32)
    (hp : ∀ W, Chg NoB w W → Calls Tryz.prog 14 #[E.val] W fun e w' => e = .returned (sv (printL x)) ∧ Chg NoB W w') :
    Calls Tryz.prog 34 #[E.val] w fun e w' => e = .returned (sv (opS x)) ∧ Chg NoB w w' := by
  obtain ⟨hm, _⟩ := hx.kid
  have hk := hx.kind
  obtain ⟨ek, evk, evn, evs, et, en, es, ao, m, c⟩ := E
  simp only at hm hk
  have HP := Lib.hid hp
  have hlen : (⟨(printL x).toArray⟩ : ByteArray).size ≤ 1000000000000 := by rw [sz_sv]; exact print_len' hok h32
  have hlen2 := print_len' hok h32
  have HLF := Lib.hid (leaf_kids x)
  have HKL := Lib.hid (fun hl => kind_lt hok hl)
  have HE : Hid (∀ w2, Chg NoB (w.alloc (ExF.obj ⟨ek, evk, evn, evs, et, en, es, ao, m, c⟩)) w2 → w2.heap[w.heap.size]? = some (ExF.obj ⟨ek, evk, evn, evs, et, en, es, ao, m, c⟩) ∧ Chg NoB w w2) := Lib.hid fun w2 c => ⟨c.heap hal_new (fun h => h), ((Chg.refl NoB w).alloc _).trans c (fun _ h => .inl h)⟩
  clear hx hok hp
  obtain ⟨e0, e1, e2, e3, e4, e5, e6, e7⟩ := ExCells.of (HE.out _ (Chg.refl _ _)).1
  cases hl : x.leaf with
  | true =>
    obtain rfl : m = 0 := by rw [hm]; rw [hl] at HLF; simpa using HLF.out.symm
    have HS : Hid (opS x = printL x) := Lib.hid (by unfold opS; rw [hl]; rfl)
    clear hm hk HLF HKL
    go_enter Tryz.func34, Tryz.ntmps34
    go_wp2_with fail
    refine (HP.out _ ((Chg.refl _ _).alloc _)).mono ?_
    rintro e w2 ⟨rfl, c2⟩
    have C2 := Lib.hid (HE.out w2 c2).2
    clear c2 e0 e1 e2 e3 e4 e5 e6 e7
    go_wp2_with fail
    go_ret
    exact ⟨by rw [HS.out]; rfl, C2.out⟩
  | false =>
    have hpos : 0 < m := by rw [hm]; rw [hl] at HLF; have h1 := HLF.out; rcases Nat.eq_zero_or_pos x.kids.length with h | h; (simp [h] at h1); exact h
    have hk20 : ek < 20 := by rw [hk]; exact HKL.out hl
    have HS : Hid (opS x = 40 :: (printL x ++ [41])) := Lib.hid (by unfold opS; rw [hl]; rfl)
    clear hm hk HLF HKL
    have b1 : ((m : Int) > 0) = True := by simp; omega
    go_enter Tryz.func34, Tryz.ntmps34
    go_wp2_with fail
    refine (HP.out _ ((Chg.refl _ _).alloc _)).mono ?_
    rintro e w2 ⟨rfl, c2⟩
    have C2 := Lib.hid (HE.out w2 c2).2
    clear c2 e0 e1 e2 e3 e4 e5 e6 e7
    go_wp2_with fail
    rotate_left
    go_ret
    refine ⟨?_, C2.out⟩
    rw [HS.out]
    have f1 := cat_sv [40] (printL x)
    have f2 := cat_sv ([40] ++ printL x) [41]
    rw [← f1] at f2
    exact congrArg (fun z => Ending.returned (Value.string z)) f2
end Go.Proofs.YtnbckfkdmkbopaaGreatDoor
