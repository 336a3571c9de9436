/-
  No cell of these rows narrows 'for every input' (looked for: loops, veiled, ifaces, maps, wideKeys, modest, calm, conditions, laid).
  DERIVED. THE GIVEN ROWS OF THIS SEAT. 5 by the template 'for every input the law returns true; each argument reads behind the call as it read before'; 0 by the template 'total and deterministic' (their statements: YtpiijcjbphpffaaTotals.lean).
  GIVEN WITH THE SEED: the statements are not yours to turn. If you find one false, say at which input.
  Laid BY PROGRAM, IN A SANDBOX (cutbox-rows.mjs): the forced cells as the released guide's own fill.sh prints them over the translation 2b2690396bbe0e3d… (all of the seat's roots in one cut). By AI agents, Wed Nov 11 2026. No macro, syntax, notation, axiom, sorry.
-/
import Derived.Test.YtpiijcjbphpffaaChecked
import GoSem.Claim
import GoSem.ClaimJoined
import GoSem.ClaimMapViews
import Derived.JoinedTies
import Derived.KernelRfl
namespace Go.Proofs.Ytpiijcjbphpffaa
/- THE CELL 'sum', in the pinned program and in every row, IS THE sha256 OF THE DUMP (.gsa) THAT YtpiijcjbphpffaaProg.lean LOADS. Nothing in Lean hashes anything: it is a label: what it is worth is what the hold of that sum in a sandbox is worth. -/
noncomputable def Try.pinned : Pinned := { name := "ytpiijcjbphpffaa", sum := "2b2690396bbe0e3d17372e8fd3e81f0eb0f4305bd553f2c1659c158c365bb1f5", checked := Try.checked }
namespace Rows
def none {H : Type} : Left H := { results := [], args := [] }

/-- 'cadastrelaw13.CatalogFull': WHATEVER THE INPUT: true; the input reads as it did. -/
def catalogFullSpec : ChangeSpec := { name := "catalogFull", fn := fun _ => fun
  | [d1, d2] => { results := [.lit (.bool true)], args := [d1, d2] }
  | _ => none }
def catalogFullRow : OpenClaim := { program := "ytpiijcjbphpffaa", sum := "2b2690396bbe0e3d17372e8fd3e81f0eb0f4305bd553f2c1659c158c365bb1f5", func := "cadastre/cadastrelaw13.CatalogFull", spec := "catalogFull", unfollowed := true, recurses := true, apart := false }
def CatalogFullSaid : Prop := catalogFullRow.holds Try.pinned (OpenSpec.ofChange catalogFullSpec)

/-- ITS FALSE NEIGHBOUR: 'it returns false'. Refute it at one input. -/
def catalogFullWrong : ChangeSpec := { name := "catalogFull", fn := fun _ => fun
  | [d1, d2] => { results := [.lit (.bool false)], args := [d1, d2] }
  | _ => none }
def CatalogFullWrongFalsely : Prop := catalogFullRow.holds Try.pinned (OpenSpec.ofChange catalogFullWrong)

/-- 'cadastrelaw13.CatalogNames': WHATEVER THE INPUT: true; the input reads as it did. -/
def catalogNamesSpec : ChangeSpec := { name := "catalogNames", fn := fun _ => fun
  | [d] => { results := [.lit (.bool true)], args := [d] }
  | _ => none }
def catalogNamesRow : OpenClaim := { program := "ytpiijcjbphpffaa", sum := "2b2690396bbe0e3d17372e8fd3e81f0eb0f4305bd553f2c1659c158c365bb1f5", func := "cadastre/cadastrelaw13.CatalogNames", spec := "catalogNames", unfollowed := true, recurses := true, apart := false }
def CatalogNamesSaid : Prop := catalogNamesRow.holds Try.pinned (OpenSpec.ofChange catalogNamesSpec)

/-- ITS FALSE NEIGHBOUR: 'it returns false'. Refute it at one input. -/
def catalogNamesWrong : ChangeSpec := { name := "catalogNames", fn := fun _ => fun
  | [d] => { results := [.lit (.bool false)], args := [d] }
  | _ => none }
def CatalogNamesWrongFalsely : Prop := catalogNamesRow.holds Try.pinned (OpenSpec.ofChange catalogNamesWrong)

/-- 'cadastrelaw13.CatalogReads': WHATEVER THE INPUT: true; the input reads as it did. -/
def catalogReadsSpec : ChangeSpec := { name := "catalogReads", fn := fun _ => fun
  | [d] => { results := [.lit (.bool true)], args := [d] }
  | _ => none }
def catalogReadsRow : OpenClaim := { program := "ytpiijcjbphpffaa", sum := "2b2690396bbe0e3d17372e8fd3e81f0eb0f4305bd553f2c1659c158c365bb1f5", func := "cadastre/cadastrelaw13.CatalogReads", spec := "catalogReads", unfollowed := true, recurses := true, apart := false }
def CatalogReadsSaid : Prop := catalogReadsRow.holds Try.pinned (OpenSpec.ofChange catalogReadsSpec)

/-- ITS FALSE NEIGHBOUR: 'it returns false'. Refute it at one input. -/
def catalogReadsWrong : ChangeSpec := { name := "catalogReads", fn := fun _ => fun
  | [d] => { results := [.lit (.bool false)], args := [d] }
  | _ => none }
def CatalogReadsWrongFalsely : Prop := catalogReadsRow.holds Try.pinned (OpenSpec.ofChange catalogReadsWrong)

/-- 'cadastrelaw13.CatalogBack': WHATEVER THE INPUT: true; the input reads as it did. -/
def catalogBackSpec : ChangeSpec := { name := "catalogBack", fn := fun _ => fun
  | [d] => { results := [.lit (.bool true)], args := [d] }
  | _ => none }
def catalogBackRow : OpenClaim := { program := "ytpiijcjbphpffaa", sum := "2b2690396bbe0e3d17372e8fd3e81f0eb0f4305bd553f2c1659c158c365bb1f5", func := "cadastre/cadastrelaw13.CatalogBack", spec := "catalogBack", unfollowed := true, recurses := true, apart := false }
def CatalogBackSaid : Prop := catalogBackRow.holds Try.pinned (OpenSpec.ofChange catalogBackSpec)

/-- ITS FALSE NEIGHBOUR: 'it returns false'. Refute it at one input. -/
def catalogBackWrong : ChangeSpec := { name := "catalogBack", fn := fun _ => fun
  | [d] => { results := [.lit (.bool false)], args := [d] }
  | _ => none }
def CatalogBackWrongFalsely : Prop := catalogBackRow.holds Try.pinned (OpenSpec.ofChange catalogBackWrong)

/-- 'cadastrelaw13.CatalogScripts': WHATEVER THE INPUT: true; the input reads as it did. -/
def catalogScriptsSpec : ChangeSpec := { name := "catalogScripts", fn := fun _ => fun
  | [d] => { results := [.lit (.bool true)], args := [d] }
  | _ => none }
def catalogScriptsRow : OpenClaim := { program := "ytpiijcjbphpffaa", sum := "2b2690396bbe0e3d17372e8fd3e81f0eb0f4305bd553f2c1659c158c365bb1f5", func := "cadastre/cadastrelaw13.CatalogScripts", spec := "catalogScripts", inPlace := ["maps.clone"], unfollowed := true, recurses := true, apart := false }
def CatalogScriptsSaid : Prop := catalogScriptsRow.holds Try.pinned (OpenSpec.ofChange catalogScriptsSpec)

/-- ITS FALSE NEIGHBOUR: 'it returns false'. Refute it at one input. -/
def catalogScriptsWrong : ChangeSpec := { name := "catalogScripts", fn := fun _ => fun
  | [d] => { results := [.lit (.bool false)], args := [d] }
  | _ => none }
def CatalogScriptsWrongFalsely : Prop := catalogScriptsRow.holds Try.pinned (OpenSpec.ofChange catalogScriptsWrong)

/- THE SECOND FORM. 'bulk': how many values and letters a reading holds, each counted each time it is reached (what is shared counts as often as it is met; a slice's spare places count too). A statement '..UptoSaid' is the law's where the arguments, and the package variables that the reading takes, are together of bulk at most 1048576: NARROWER than '..Said'. Prove '..Said' where nothing that the law and all that it calls make is longer than what came in: it says more and counts as full. Else prove '..UptoSaid'. A law counts once. -/
mutual
def uptoBulk {H : Type} : DataW H → Nat
  | .lit (.string bytes) => bytes.length + 1
  | .lit _ => 1
  | .nil => 1
  | .ptr d => uptoBulk d + 1
  | .slice elems spare => uptoBulkAll elems + uptoBulkAll spare + 1
  | .agg parts => uptoBulkAll parts + 1
  | .iface _ d => uptoBulk d + 1
  | .map entries => uptoBulkEntries entries + 1
  | .held _ => 1
def uptoBulkAll {H : Type} : List (DataW H) → Nat
  | [] => 0
  | d :: r => uptoBulk d + uptoBulkAll r
def uptoBulkEntries {H : Type} : List (Lit × DataW H) → Nat
  | [] => 0
  | x :: r => uptoBulkEntry x + uptoBulkEntries r
def uptoBulkEntry {H : Type} : Lit × DataW H → Nat
  | (.string bytes, d) => bytes.length + uptoBulk d + 1
  | (_, d) => uptoBulk d + 1
 end
def uptoSmall : (H : Type) → List (DataW H) → Bool := fun _ ds => decide (uptoBulkAll ds ≤ 1048576)
def OpenSpec.upto (s : _root_.Go.ChangeSpec) : _root_.Go.OpenSpec := { _root_.Go.OpenSpec.ofChange s with cond := some uptoSmall }

/-- 'cadastrelaw13.CatalogFull', WHERE WHAT IT READS IS OF BULK AT MOST 1048576: true; the input reads as it did. -/
def catalogFullUptoRow : OpenClaim := { program := "ytpiijcjbphpffaa", sum := "2b2690396bbe0e3d17372e8fd3e81f0eb0f4305bd553f2c1659c158c365bb1f5", func := "cadastre/cadastrelaw13.CatalogFull", spec := "catalogFull", unfollowed := true, recurses := true, apart := false, narrowed := true }
def CatalogFullUptoSaid : Prop := catalogFullUptoRow.holds Try.pinned (OpenSpec.upto catalogFullSpec)

/-- 'cadastrelaw13.CatalogNames', WHERE WHAT IT READS IS OF BULK AT MOST 1048576: true; the input reads as it did. -/
def catalogNamesUptoRow : OpenClaim := { program := "ytpiijcjbphpffaa", sum := "2b2690396bbe0e3d17372e8fd3e81f0eb0f4305bd553f2c1659c158c365bb1f5", func := "cadastre/cadastrelaw13.CatalogNames", spec := "catalogNames", unfollowed := true, recurses := true, apart := false, narrowed := true }
def CatalogNamesUptoSaid : Prop := catalogNamesUptoRow.holds Try.pinned (OpenSpec.upto catalogNamesSpec)

/-- 'cadastrelaw13.CatalogReads', WHERE WHAT IT READS IS OF BULK AT MOST 1048576: true; the input reads as it did. -/
def catalogReadsUptoRow : OpenClaim := { program := "ytpiijcjbphpffaa", sum := "2b2690396bbe0e3d17372e8fd3e81f0eb0f4305bd553f2c1659c158c365bb1f5", func := "cadastre/cadastrelaw13.CatalogReads", spec := "catalogReads", unfollowed := true, recurses := true, apart := false, narrowed := true }
def CatalogReadsUptoSaid : Prop := catalogReadsUptoRow.holds Try.pinned (OpenSpec.upto catalogReadsSpec)

/-- 'cadastrelaw13.CatalogBack', WHERE WHAT IT READS IS OF BULK AT MOST 1048576: true; the input reads as it did. -/
def catalogBackUptoRow : OpenClaim := { program := "ytpiijcjbphpffaa", sum := "2b2690396bbe0e3d17372e8fd3e81f0eb0f4305bd553f2c1659c158c365bb1f5", func := "cadastre/cadastrelaw13.CatalogBack", spec := "catalogBack", unfollowed := true, recurses := true, apart := false, narrowed := true }
def CatalogBackUptoSaid : Prop := catalogBackUptoRow.holds Try.pinned (OpenSpec.upto catalogBackSpec)

/-- 'cadastrelaw13.CatalogScripts', WHERE WHAT IT READS IS OF BULK AT MOST 1048576: true; the input reads as it did. -/
def catalogScriptsUptoRow : OpenClaim := { program := "ytpiijcjbphpffaa", sum := "2b2690396bbe0e3d17372e8fd3e81f0eb0f4305bd553f2c1659c158c365bb1f5", func := "cadastre/cadastrelaw13.CatalogScripts", spec := "catalogScripts", inPlace := ["maps.clone"], unfollowed := true, recurses := true, apart := false, narrowed := true }
def CatalogScriptsUptoSaid : Prop := catalogScriptsUptoRow.holds Try.pinned (OpenSpec.upto catalogScriptsSpec)

end Rows
end Go.Proofs.Ytpiijcjbphpffaa
