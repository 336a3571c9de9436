/-
  No cell of these rows narrows 'for every input' (looked for: loops, veiled, ifaces, maps, wideKeys, modest, calm, conditions, laid).
  DERIVED. THE GIVEN ROWS OF THIS SEAT. 10 by the template 'for every input the law returns true; each argument reads behind the call as it read before'; 0 by the template 'total and deterministic' (their statements: YtfegpmbgcocldaaTotals.lean).
  GIVEN WITH THE SEED: the statements are not yours to turn. If you find one false, say at which input.
  Laid BY PROGRAM, IN A SANDBOX (cutbox-rows.mjs): the forced cells as the released guide's own fill.sh prints them over the translation 75309872bbd64e9e… (all of the seat's roots in one cut). By AI agents, Wed Nov 11 2026. No macro, syntax, notation, axiom, sorry.
-/
import Derived.Test.YtfegpmbgcocldaaChecked
import GoSem.Claim
import GoSem.ClaimJoined
import GoSem.ClaimMapViews
import Derived.JoinedTies
import Derived.KernelRfl
namespace Go.Proofs.Ytfegpmbgcocldaa
/- THE CELL 'sum', in the pinned program and in every row, IS THE sha256 OF THE DUMP (.gsa) THAT YtfegpmbgcocldaaProg.lean LOADS. Nothing in Lean hashes anything: it is a label: what it is worth is what the hold of that sum in a sandbox is worth. -/
noncomputable def Try.pinned : Pinned := { name := "ytfegpmbgcocldaa", sum := "75309872bbd64e9ea63db7c982ace4e538f441f059ab8e23180ba316f8d9e895", checked := Try.checked }
namespace Rows
def none {H : Type} : Left H := { results := [], args := [] }

/-- 'cadastrelaw19.MvccChain': WHATEVER THE INPUT: true; the input reads as it did. -/
def mvccChainSpec : ChangeSpec := { name := "mvccChain", fn := fun _ => fun
  | [d1, d2] => { results := [.lit (.bool true)], args := [d1, d2] }
  | _ => none }
def mvccChainRow : OpenClaim := { program := "ytfegpmbgcocldaa", sum := "75309872bbd64e9ea63db7c982ace4e538f441f059ab8e23180ba316f8d9e895", func := "cadastre/cadastrelaw19.MvccChain", spec := "mvccChain", unfollowed := true, recurses := true, apart := false }
def MvccChainSaid : Prop := mvccChainRow.holds Try.pinned (OpenSpec.ofChange mvccChainSpec)

/-- ITS FALSE NEIGHBOUR: 'it returns false'. Refute it at one input. -/
def mvccChainWrong : ChangeSpec := { name := "mvccChain", fn := fun _ => fun
  | [d1, d2] => { results := [.lit (.bool false)], args := [d1, d2] }
  | _ => none }
def MvccChainWrongFalsely : Prop := mvccChainRow.holds Try.pinned (OpenSpec.ofChange mvccChainWrong)

/-- 'cadastrelaw19.MvccSees': WHATEVER THE INPUT: true; the input reads as it did. -/
def mvccSeesSpec : ChangeSpec := { name := "mvccSees", fn := fun _ => fun
  | [d1, d2] => { results := [.lit (.bool true)], args := [d1, d2] }
  | _ => none }
def mvccSeesRow : OpenClaim := { program := "ytfegpmbgcocldaa", sum := "75309872bbd64e9ea63db7c982ace4e538f441f059ab8e23180ba316f8d9e895", func := "cadastre/cadastrelaw19.MvccSees", spec := "mvccSees", unfollowed := true, recurses := true, apart := false }
def MvccSeesSaid : Prop := mvccSeesRow.holds Try.pinned (OpenSpec.ofChange mvccSeesSpec)

/-- ITS FALSE NEIGHBOUR: 'it returns false'. Refute it at one input. -/
def mvccSeesWrong : ChangeSpec := { name := "mvccSees", fn := fun _ => fun
  | [d1, d2] => { results := [.lit (.bool false)], args := [d1, d2] }
  | _ => none }
def MvccSeesWrongFalsely : Prop := mvccSeesRow.holds Try.pinned (OpenSpec.ofChange mvccSeesWrong)

/-- 'cadastrelaw19.MvccIds': WHATEVER THE INPUT: true; the input reads as it did. -/
def mvccIdsSpec : ChangeSpec := { name := "mvccIds", fn := fun _ => fun
  | [d1, d2] => { results := [.lit (.bool true)], args := [d1, d2] }
  | _ => none }
def mvccIdsRow : OpenClaim := { program := "ytfegpmbgcocldaa", sum := "75309872bbd64e9ea63db7c982ace4e538f441f059ab8e23180ba316f8d9e895", func := "cadastre/cadastrelaw19.MvccIds", spec := "mvccIds", unfollowed := true, recurses := true, apart := false }
def MvccIdsSaid : Prop := mvccIdsRow.holds Try.pinned (OpenSpec.ofChange mvccIdsSpec)

/-- ITS FALSE NEIGHBOUR: 'it returns false'. Refute it at one input. -/
def mvccIdsWrong : ChangeSpec := { name := "mvccIds", fn := fun _ => fun
  | [d1, d2] => { results := [.lit (.bool false)], args := [d1, d2] }
  | _ => none }
def MvccIdsWrongFalsely : Prop := mvccIdsRow.holds Try.pinned (OpenSpec.ofChange mvccIdsWrong)

/-- 'cadastrelaw19.MvccScripts': WHATEVER THE INPUT: true; the input reads as it did. -/
def mvccScriptsSpec : ChangeSpec := { name := "mvccScripts", fn := fun _ => fun
  | [d1, d2] => { results := [.lit (.bool true)], args := [d1, d2] }
  | _ => none }
def mvccScriptsRow : OpenClaim := { program := "ytfegpmbgcocldaa", sum := "75309872bbd64e9ea63db7c982ace4e538f441f059ab8e23180ba316f8d9e895", func := "cadastre/cadastrelaw19.MvccScripts", spec := "mvccScripts", unfollowed := true, recurses := true, apart := false }
def MvccScriptsSaid : Prop := mvccScriptsRow.holds Try.pinned (OpenSpec.ofChange mvccScriptsSpec)

/-- ITS FALSE NEIGHBOUR: 'it returns false'. Refute it at one input. -/
def mvccScriptsWrong : ChangeSpec := { name := "mvccScripts", fn := fun _ => fun
  | [d1, d2] => { results := [.lit (.bool false)], args := [d1, d2] }
  | _ => none }
def MvccScriptsWrongFalsely : Prop := mvccScriptsRow.holds Try.pinned (OpenSpec.ofChange mvccScriptsWrong)

/-- 'cadastrelaw19.MvccRestarts': WHATEVER THE INPUT: true; the input reads as it did. -/
def mvccRestartsSpec : ChangeSpec := { name := "mvccRestarts", fn := fun _ => fun
  | [d] => { results := [.lit (.bool true)], args := [d] }
  | _ => none }
def mvccRestartsRow : OpenClaim := { program := "ytfegpmbgcocldaa", sum := "75309872bbd64e9ea63db7c982ace4e538f441f059ab8e23180ba316f8d9e895", func := "cadastre/cadastrelaw19.MvccRestarts", spec := "mvccRestarts", unfollowed := true, recurses := true, apart := false }
def MvccRestartsSaid : Prop := mvccRestartsRow.holds Try.pinned (OpenSpec.ofChange mvccRestartsSpec)

/-- ITS FALSE NEIGHBOUR: 'it returns false'. Refute it at one input. -/
def mvccRestartsWrong : ChangeSpec := { name := "mvccRestarts", fn := fun _ => fun
  | [d] => { results := [.lit (.bool false)], args := [d] }
  | _ => none }
def MvccRestartsWrongFalsely : Prop := mvccRestartsRow.holds Try.pinned (OpenSpec.ofChange mvccRestartsWrong)

/-- 'cadastrelaw13.CatalogFull': WHATEVER THE INPUT: true; the input reads as it did. -/
def catalogFullSpec : ChangeSpec := { name := "catalogFull", fn := fun _ => fun
  | [d1, d2] => { results := [.lit (.bool true)], args := [d1, d2] }
  | _ => none }
def catalogFullRow : OpenClaim := { program := "ytfegpmbgcocldaa", sum := "75309872bbd64e9ea63db7c982ace4e538f441f059ab8e23180ba316f8d9e895", func := "cadastre/cadastrelaw13.CatalogFull", spec := "catalogFull", unfollowed := true, recurses := true, apart := false }
def CatalogFullSaid : Prop := catalogFullRow.holds Try.pinned (OpenSpec.ofChange catalogFullSpec)

/-- ITS FALSE NEIGHBOUR: 'it returns false'. Refute it at one input. -/
def catalogFullWrong : ChangeSpec := { name := "catalogFull", fn := fun _ => fun
  | [d1, d2] => { results := [.lit (.bool false)], args := [d1, d2] }
  | _ => none }
def CatalogFullWrongFalsely : Prop := catalogFullRow.holds Try.pinned (OpenSpec.ofChange catalogFullWrong)

/-- 'cadastrelaw13.CatalogNames': WHATEVER THE INPUT: true; the input reads as it did. -/
def catalogNamesSpec : ChangeSpec := { name := "catalogNames", fn := fun _ => fun
  | [d] => { results := [.lit (.bool true)], args := [d] }
  | _ => none }
def catalogNamesRow : OpenClaim := { program := "ytfegpmbgcocldaa", sum := "75309872bbd64e9ea63db7c982ace4e538f441f059ab8e23180ba316f8d9e895", func := "cadastre/cadastrelaw13.CatalogNames", spec := "catalogNames", unfollowed := true, recurses := true, apart := false }
def CatalogNamesSaid : Prop := catalogNamesRow.holds Try.pinned (OpenSpec.ofChange catalogNamesSpec)

/-- ITS FALSE NEIGHBOUR: 'it returns false'. Refute it at one input. -/
def catalogNamesWrong : ChangeSpec := { name := "catalogNames", fn := fun _ => fun
  | [d] => { results := [.lit (.bool false)], args := [d] }
  | _ => none }
def CatalogNamesWrongFalsely : Prop := catalogNamesRow.holds Try.pinned (OpenSpec.ofChange catalogNamesWrong)

/-- 'cadastrelaw13.CatalogReads': WHATEVER THE INPUT: true; the input reads as it did. -/
def catalogReadsSpec : ChangeSpec := { name := "catalogReads", fn := fun _ => fun
  | [d] => { results := [.lit (.bool true)], args := [d] }
  | _ => none }
def catalogReadsRow : OpenClaim := { program := "ytfegpmbgcocldaa", sum := "75309872bbd64e9ea63db7c982ace4e538f441f059ab8e23180ba316f8d9e895", func := "cadastre/cadastrelaw13.CatalogReads", spec := "catalogReads", unfollowed := true, recurses := true, apart := false }
def CatalogReadsSaid : Prop := catalogReadsRow.holds Try.pinned (OpenSpec.ofChange catalogReadsSpec)

/-- ITS FALSE NEIGHBOUR: 'it returns false'. Refute it at one input. -/
def catalogReadsWrong : ChangeSpec := { name := "catalogReads", fn := fun _ => fun
  | [d] => { results := [.lit (.bool false)], args := [d] }
  | _ => none }
def CatalogReadsWrongFalsely : Prop := catalogReadsRow.holds Try.pinned (OpenSpec.ofChange catalogReadsWrong)

/-- 'cadastrelaw13.CatalogBack': WHATEVER THE INPUT: true; the input reads as it did. -/
def catalogBackSpec : ChangeSpec := { name := "catalogBack", fn := fun _ => fun
  | [d] => { results := [.lit (.bool true)], args := [d] }
  | _ => none }
def catalogBackRow : OpenClaim := { program := "ytfegpmbgcocldaa", sum := "75309872bbd64e9ea63db7c982ace4e538f441f059ab8e23180ba316f8d9e895", func := "cadastre/cadastrelaw13.CatalogBack", spec := "catalogBack", unfollowed := true, recurses := true, apart := false }
def CatalogBackSaid : Prop := catalogBackRow.holds Try.pinned (OpenSpec.ofChange catalogBackSpec)

/-- ITS FALSE NEIGHBOUR: 'it returns false'. Refute it at one input. -/
def catalogBackWrong : ChangeSpec := { name := "catalogBack", fn := fun _ => fun
  | [d] => { results := [.lit (.bool false)], args := [d] }
  | _ => none }
def CatalogBackWrongFalsely : Prop := catalogBackRow.holds Try.pinned (OpenSpec.ofChange catalogBackWrong)

/-- 'cadastrelaw13.CatalogScripts': WHATEVER THE INPUT: true; the input reads as it did. -/
def catalogScriptsSpec : ChangeSpec := { name := "catalogScripts", fn := fun _ => fun
  | [d] => { results := [.lit (.bool true)], args := [d] }
  | _ => none }
def catalogScriptsRow : OpenClaim := { program := "ytfegpmbgcocldaa", sum := "75309872bbd64e9ea63db7c982ace4e538f441f059ab8e23180ba316f8d9e895", func := "cadastre/cadastrelaw13.CatalogScripts", spec := "catalogScripts", inPlace := ["maps.clone"], unfollowed := true, recurses := true, apart := false }
def CatalogScriptsSaid : Prop := catalogScriptsRow.holds Try.pinned (OpenSpec.ofChange catalogScriptsSpec)

/-- ITS FALSE NEIGHBOUR: 'it returns false'. Refute it at one input. -/
def catalogScriptsWrong : ChangeSpec := { name := "catalogScripts", fn := fun _ => fun
  | [d] => { results := [.lit (.bool false)], args := [d] }
  | _ => none }
def CatalogScriptsWrongFalsely : Prop := catalogScriptsRow.holds Try.pinned (OpenSpec.ofChange catalogScriptsWrong)

/- THE SECOND FORM. 'bulk': how many values and letters a reading holds, each counted each time it is reached (what is shared counts as often as it is met; a slice's spare places count too). A statement '..UptoSaid' is the law's where the arguments, and the package variables that the reading takes, are together of bulk at most 1048576: NARROWER than '..Said'. Prove '..Said' where nothing that the law and all that it calls make is longer than what came in: it says more and counts as full. Else prove '..UptoSaid'. A law counts once. -/
mutual
def uptoBulk {H : Type} : DataW H → Nat
  | .lit (.string bytes) => bytes.length + 1
  | .lit _ => 1
  | .nil => 1
  | .ptr d => uptoBulk d + 1
  | .slice elems spare => uptoBulkAll elems + uptoBulkAll spare + 1
  | .agg parts => uptoBulkAll parts + 1
  | .iface _ d => uptoBulk d + 1
  | .map entries => uptoBulkEntries entries + 1
  | .held _ => 1
def uptoBulkAll {H : Type} : List (DataW H) → Nat
  | [] => 0
  | d :: r => uptoBulk d + uptoBulkAll r
def uptoBulkEntries {H : Type} : List (Lit × DataW H) → Nat
  | [] => 0
  | x :: r => uptoBulkEntry x + uptoBulkEntries r
def uptoBulkEntry {H : Type} : Lit × DataW H → Nat
  | (.string bytes, d) => bytes.length + uptoBulk d + 1
  | (_, d) => uptoBulk d + 1
 end
def uptoSmall : (H : Type) → List (DataW H) → Bool := fun _ ds => decide (uptoBulkAll ds ≤ 1048576)
def OpenSpec.upto (s : _root_.Go.ChangeSpec) : _root_.Go.OpenSpec := { _root_.Go.OpenSpec.ofChange s with cond := some uptoSmall }

/-- 'cadastrelaw19.MvccChain', WHERE WHAT IT READS IS OF BULK AT MOST 1048576: true; the input reads as it did. -/
def mvccChainUptoRow : OpenClaim := { program := "ytfegpmbgcocldaa", sum := "75309872bbd64e9ea63db7c982ace4e538f441f059ab8e23180ba316f8d9e895", func := "cadastre/cadastrelaw19.MvccChain", spec := "mvccChain", unfollowed := true, recurses := true, apart := false, narrowed := true }
def MvccChainUptoSaid : Prop := mvccChainUptoRow.holds Try.pinned (OpenSpec.upto mvccChainSpec)

/-- 'cadastrelaw19.MvccSees', WHERE WHAT IT READS IS OF BULK AT MOST 1048576: true; the input reads as it did. -/
def mvccSeesUptoRow : OpenClaim := { program := "ytfegpmbgcocldaa", sum := "75309872bbd64e9ea63db7c982ace4e538f441f059ab8e23180ba316f8d9e895", func := "cadastre/cadastrelaw19.MvccSees", spec := "mvccSees", unfollowed := true, recurses := true, apart := false, narrowed := true }
def MvccSeesUptoSaid : Prop := mvccSeesUptoRow.holds Try.pinned (OpenSpec.upto mvccSeesSpec)

/-- 'cadastrelaw19.MvccIds', WHERE WHAT IT READS IS OF BULK AT MOST 1048576: true; the input reads as it did. -/
def mvccIdsUptoRow : OpenClaim := { program := "ytfegpmbgcocldaa", sum := "75309872bbd64e9ea63db7c982ace4e538f441f059ab8e23180ba316f8d9e895", func := "cadastre/cadastrelaw19.MvccIds", spec := "mvccIds", unfollowed := true, recurses := true, apart := false, narrowed := true }
def MvccIdsUptoSaid : Prop := mvccIdsUptoRow.holds Try.pinned (OpenSpec.upto mvccIdsSpec)

/-- 'cadastrelaw19.MvccScripts', WHERE WHAT IT READS IS OF BULK AT MOST 1048576: true; the input reads as it did. -/
def mvccScriptsUptoRow : OpenClaim := { program := "ytfegpmbgcocldaa", sum := "75309872bbd64e9ea63db7c982ace4e538f441f059ab8e23180ba316f8d9e895", func := "cadastre/cadastrelaw19.MvccScripts", spec := "mvccScripts", unfollowed := true, recurses := true, apart := false, narrowed := true }
def MvccScriptsUptoSaid : Prop := mvccScriptsUptoRow.holds Try.pinned (OpenSpec.upto mvccScriptsSpec)

/-- 'cadastrelaw19.MvccRestarts', WHERE WHAT IT READS IS OF BULK AT MOST 1048576: true; the input reads as it did. -/
def mvccRestartsUptoRow : OpenClaim := { program := "ytfegpmbgcocldaa", sum := "75309872bbd64e9ea63db7c982ace4e538f441f059ab8e23180ba316f8d9e895", func := "cadastre/cadastrelaw19.MvccRestarts", spec := "mvccRestarts", unfollowed := true, recurses := true, apart := false, narrowed := true }
def MvccRestartsUptoSaid : Prop := mvccRestartsUptoRow.holds Try.pinned (OpenSpec.upto mvccRestartsSpec)

/-- 'cadastrelaw13.CatalogFull', WHERE WHAT IT READS IS OF BULK AT MOST 1048576: true; the input reads as it did. -/
def catalogFullUptoRow : OpenClaim := { program := "ytfegpmbgcocldaa", sum := "75309872bbd64e9ea63db7c982ace4e538f441f059ab8e23180ba316f8d9e895", func := "cadastre/cadastrelaw13.CatalogFull", spec := "catalogFull", unfollowed := true, recurses := true, apart := false, narrowed := true }
def CatalogFullUptoSaid : Prop := catalogFullUptoRow.holds Try.pinned (OpenSpec.upto catalogFullSpec)

/-- 'cadastrelaw13.CatalogNames', WHERE WHAT IT READS IS OF BULK AT MOST 1048576: true; the input reads as it did. -/
def catalogNamesUptoRow : OpenClaim := { program := "ytfegpmbgcocldaa", sum := "75309872bbd64e9ea63db7c982ace4e538f441f059ab8e23180ba316f8d9e895", func := "cadastre/cadastrelaw13.CatalogNames", spec := "catalogNames", unfollowed := true, recurses := true, apart := false, narrowed := true }
def CatalogNamesUptoSaid : Prop := catalogNamesUptoRow.holds Try.pinned (OpenSpec.upto catalogNamesSpec)

/-- 'cadastrelaw13.CatalogReads', WHERE WHAT IT READS IS OF BULK AT MOST 1048576: true; the input reads as it did. -/
def catalogReadsUptoRow : OpenClaim := { program := "ytfegpmbgcocldaa", sum := "75309872bbd64e9ea63db7c982ace4e538f441f059ab8e23180ba316f8d9e895", func := "cadastre/cadastrelaw13.CatalogReads", spec := "catalogReads", unfollowed := true, recurses := true, apart := false, narrowed := true }
def CatalogReadsUptoSaid : Prop := catalogReadsUptoRow.holds Try.pinned (OpenSpec.upto catalogReadsSpec)

/-- 'cadastrelaw13.CatalogBack', WHERE WHAT IT READS IS OF BULK AT MOST 1048576: true; the input reads as it did. -/
def catalogBackUptoRow : OpenClaim := { program := "ytfegpmbgcocldaa", sum := "75309872bbd64e9ea63db7c982ace4e538f441f059ab8e23180ba316f8d9e895", func := "cadastre/cadastrelaw13.CatalogBack", spec := "catalogBack", unfollowed := true, recurses := true, apart := false, narrowed := true }
def CatalogBackUptoSaid : Prop := catalogBackUptoRow.holds Try.pinned (OpenSpec.upto catalogBackSpec)

/-- 'cadastrelaw13.CatalogScripts', WHERE WHAT IT READS IS OF BULK AT MOST 1048576: true; the input reads as it did. -/
def catalogScriptsUptoRow : OpenClaim := { program := "ytfegpmbgcocldaa", sum := "75309872bbd64e9ea63db7c982ace4e538f441f059ab8e23180ba316f8d9e895", func := "cadastre/cadastrelaw13.CatalogScripts", spec := "catalogScripts", inPlace := ["maps.clone"], unfollowed := true, recurses := true, apart := false, narrowed := true }
def CatalogScriptsUptoSaid : Prop := catalogScriptsUptoRow.holds Try.pinned (OpenSpec.upto catalogScriptsSpec)

end Rows
end Go.Proofs.Ytfegpmbgcocldaa
