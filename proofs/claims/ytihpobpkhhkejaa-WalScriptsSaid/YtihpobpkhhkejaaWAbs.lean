/-
  What the log's calls come to, on a disk and a log told plainly. No condition beyond each lemma's own.
-/
import Derived.Test.YtihpobpkhhkejaaWLog
set_option autoImplicit false
namespace Go.Proofs.Ytihpobpkhhkejaa
open Go Go.RowKit

/-- sector number i of a row of bytes -/
def padTo (c : List Int) : Sec := c ++ List.replicate (64 - c.length) 0
def secAt (bs : List Int) (i : Nat) : Sec := padTo ((bs.drop (i * 64)).take 64)
theorem padTo_len {c : List Int} (h : c.length ≤ 64) : (padTo c).length = 64 := by simp [padTo]; omega
theorem secAt_len (bs : List Int) (i : Nat) : (secAt bs i).length = 64 := padTo_len (by simp; omega)
/-- the sectors that bytes fill, from number a on -/
def secsOf (bs : List Int) (a : Nat) : Nat → List (Int × Sec)
  | 0 => []
  | k + 1 => ((a : Int) + 2, secAt bs a) :: secsOf bs (a + 1) k
def upTo (n : Nat) : Nat := (n + 63) / 64
/-- what Flush writes ahead of the head -/
def Lg.todo (L : Lg) : List (Int × Sec) := secsOf L.st (L.len.toNat / 64) (upTo L.st.length - L.len.toNat / 64)
/-- writes, one behind the other, till one is refused: the disk, and whether all are done -/
def Dsk.wrs (D : Dsk) : List (Int × Sec) → Dsk × Bool
  | [] => (D, true)
  | x :: r => if D.down then (D, false) else Dsk.wrs (D.write x.1 x.2) r
def headSec (c n : Int) : Sec := padTo (leN c 8 ++ leN n 4)
theorem headSec_len (c n : Int) : (headSec c n).length = 64 := padTo_len (by simp)
def up64 (c : Int) : Int := (c + 1) % 18446744073709551616
/-- the head's write, and its Sync -/
def sealR (D : Dsk) (L : Lg) (n : Nat) : Int × Dsk × Lg :=
  if D.down then (24, D, L)
  else if (D.write (up64 L.cnt % 2) (headSec (up64 L.cnt) n)).down then (24, D.write (up64 L.cnt % 2) (headSec (up64 L.cnt) n), L)
  else (0, (D.write (up64 L.cnt % 2) (headSec (up64 L.cnt) n)).sync, { cnt := up64 L.cnt, len := n, st := L.st.take n, wait := 0 })
def flushR (D : Dsk) (L : Lg) : Int × Dsk × Lg :=
  if L.wait = 0 then (0, D, L)
  else if (D.wrs L.todo).2 = false then (24, (D.wrs L.todo).1, L)
  else if (D.wrs L.todo).1.down then (24, (D.wrs L.todo).1, L)
  else sealR (D.wrs L.todo).1.sync L L.st.length
def appR (D : Dsk) (L : Lg) (rec : List Int) : Int × Lg :=
  if L.st.length + 4 + rec.length > (D.size - 2) * 64 then (21, L) else (0, { L with st := L.st ++ leN rec.length 4 ++ rec, wait := L.wait + 1 })
/-- the records of bytes -/
def recsOf : Nat → List Int → Option (List (List Int))
  | 0, _ => some []
  | f + 1, b => if b = [] then some [] else if b.length < 4 ∨ (b.length : Int) - 4 < numOf (b.take 4) then none
    else (recsOf f (b.drop ((numOf (b.take 4)).toNat + 4))).map (((b.drop 4).take (numOf (b.take 4)).toNat) :: ·)
def recsR (b : List Int) : Option (List (List Int)) := recsOf (b.length + 1) b
def cntOf (s : Sec) : Int := numOf (s.take 8)
def lenOf (s : Sec) : Int := numOf ((s.drop 8).take 4)
def pick (h : Int × Int) (s : Sec) : Int × Int := if cntOf s > h.1 then (cntOf s, lenOf s) else h
def Dsk.head (D : Dsk) : Int × Int := pick (pick (0, 0) (D.now 0)) (D.now 1)
/-- the bytes of k sectors from number a on -/
def Dsk.bytes (D : Dsk) (a : Int) : Nat → List Int
  | 0 => []
  | k + 1 => D.now a ++ D.bytes (a + 1) k
def Dsk.stream (D : Dsk) (n : Nat) : List Int := (D.bytes 2 (upTo n)).take n
def openR (D : Dsk) : Int × Option (Lg × List (List Int)) :=
  if D.size < 3 then (1, none) else if D.down then (24, none)
  else if D.head.2 > (D.size - 2) * 64 then (6, none)
  else match recsR (D.stream D.head.2.toNat) with
    | none => (6, none)
    | some rs => (0, some ({ cnt := D.head.1, len := D.head.2, st := D.stream D.head.2.toNat, wait := 0 }, rs))
end Go.Proofs.Ytihpobpkhhkejaa
