/-
  No cell of these rows narrows 'for every input' (looked for: loops, veiled, ifaces, maps, wideKeys, modest, calm, conditions, laid).
  DERIVED. THE GIVEN ROWS OF THIS SEAT. 11 by the template 'for every input the law returns true; each argument reads behind the call as it read before'; 0 by the template 'total and deterministic' (their statements: YtihpobpkhhkejaaTotals.lean).
  GIVEN WITH THE SEED: the statements are not yours to turn. If you find one false, say at which input.
  Laid BY PROGRAM, IN A SANDBOX (cutbox-rows.mjs): the forced cells as the released guide's own fill.sh prints them over the translation b3561eed0e573751… (all of the seat's roots in one cut). By AI agents, Wed Nov 11 2026. No macro, syntax, notation, axiom, sorry.
-/
import Derived.Test.YtihpobpkhhkejaaChecked
import GoSem.Claim
import GoSem.ClaimJoined
import GoSem.ClaimMapViews
import Derived.JoinedTies
import Derived.KernelRfl
namespace Go.Proofs.Ytihpobpkhhkejaa
/- THE CELL 'sum', in the pinned program and in every row, IS THE sha256 OF THE DUMP (.gsa) THAT YtihpobpkhhkejaaProg.lean LOADS. Nothing in Lean hashes anything: it is a label: what it is worth is what the hold of that sum in a sandbox is worth. -/
noncomputable def Try.pinned : Pinned := { name := "ytihpobpkhhkejaa", sum := "b3561eed0e573751dd82be377ad947cf116e9c7fd3e9007c5e43d807201f83b0", checked := Try.checked }
namespace Rows
def none {H : Type} : Left H := { results := [], args := [] }

/-- 'cadastrelaw03.DiskKeeps': WHATEVER THE INPUT: true; the input reads as it did. -/
def diskKeepsSpec : ChangeSpec := { name := "diskKeeps", fn := fun _ => fun
  | [d1, d2, d3] => { results := [.lit (.bool true)], args := [d1, d2, d3] }
  | _ => none }
def diskKeepsRow : OpenClaim := { program := "ytihpobpkhhkejaa", sum := "b3561eed0e573751dd82be377ad947cf116e9c7fd3e9007c5e43d807201f83b0", func := "cadastre/cadastrelaw03.DiskKeeps", spec := "diskKeeps", apart := false }
def DiskKeepsSaid : Prop := diskKeepsRow.holds Try.pinned (OpenSpec.ofChange diskKeepsSpec)

/-- ITS FALSE NEIGHBOUR: 'it returns false'. Refute it at one input. -/
def diskKeepsWrong : ChangeSpec := { name := "diskKeeps", fn := fun _ => fun
  | [d1, d2, d3] => { results := [.lit (.bool false)], args := [d1, d2, d3] }
  | _ => none }
def DiskKeepsWrongFalsely : Prop := diskKeepsRow.holds Try.pinned (OpenSpec.ofChange diskKeepsWrong)

/-- 'cadastrelaw03.DiskCounts': WHATEVER THE INPUT: true; the input reads as it did. -/
def diskCountsSpec : ChangeSpec := { name := "diskCounts", fn := fun _ => fun
  | [d1, d2] => { results := [.lit (.bool true)], args := [d1, d2] }
  | _ => none }
def diskCountsRow : OpenClaim := { program := "ytihpobpkhhkejaa", sum := "b3561eed0e573751dd82be377ad947cf116e9c7fd3e9007c5e43d807201f83b0", func := "cadastre/cadastrelaw03.DiskCounts", spec := "diskCounts", apart := false }
def DiskCountsSaid : Prop := diskCountsRow.holds Try.pinned (OpenSpec.ofChange diskCountsSpec)

/-- ITS FALSE NEIGHBOUR: 'it returns false'. Refute it at one input. -/
def diskCountsWrong : ChangeSpec := { name := "diskCounts", fn := fun _ => fun
  | [d1, d2] => { results := [.lit (.bool false)], args := [d1, d2] }
  | _ => none }
def DiskCountsWrongFalsely : Prop := diskCountsRow.holds Try.pinned (OpenSpec.ofChange diskCountsWrong)

/-- 'cadastrelaw03.DiskAll': WHATEVER THE INPUT: true; the input reads as it did. -/
def diskAllSpec : ChangeSpec := { name := "diskAll", fn := fun _ => fun
  | [d1, d2] => { results := [.lit (.bool true)], args := [d1, d2] }
  | _ => none }
def diskAllRow : OpenClaim := { program := "ytihpobpkhhkejaa", sum := "b3561eed0e573751dd82be377ad947cf116e9c7fd3e9007c5e43d807201f83b0", func := "cadastre/cadastrelaw03.DiskAll", spec := "diskAll", inPlace := ["maps.clone"], apart := false }
def DiskAllSaid : Prop := diskAllRow.holds Try.pinned (OpenSpec.ofChange diskAllSpec)

/-- ITS FALSE NEIGHBOUR: 'it returns false'. Refute it at one input. -/
def diskAllWrong : ChangeSpec := { name := "diskAll", fn := fun _ => fun
  | [d1, d2] => { results := [.lit (.bool false)], args := [d1, d2] }
  | _ => none }
def DiskAllWrongFalsely : Prop := diskAllRow.holds Try.pinned (OpenSpec.ofChange diskAllWrong)

/-- 'cadastrelaw03.DiskArms': WHATEVER THE INPUT: true; the input reads as it did. -/
def diskArmsSpec : ChangeSpec := { name := "diskArms", fn := fun _ => fun
  | [d1, d2] => { results := [.lit (.bool true)], args := [d1, d2] }
  | _ => none }
def diskArmsRow : OpenClaim := { program := "ytihpobpkhhkejaa", sum := "b3561eed0e573751dd82be377ad947cf116e9c7fd3e9007c5e43d807201f83b0", func := "cadastre/cadastrelaw03.DiskArms", spec := "diskArms", inPlace := ["maps.clone"], apart := false }
def DiskArmsSaid : Prop := diskArmsRow.holds Try.pinned (OpenSpec.ofChange diskArmsSpec)

/-- ITS FALSE NEIGHBOUR: 'it returns false'. Refute it at one input. -/
def diskArmsWrong : ChangeSpec := { name := "diskArms", fn := fun _ => fun
  | [d1, d2] => { results := [.lit (.bool false)], args := [d1, d2] }
  | _ => none }
def DiskArmsWrongFalsely : Prop := diskArmsRow.holds Try.pinned (OpenSpec.ofChange diskArmsWrong)

/-- 'cadastrelaw03.DiskScripts': WHATEVER THE INPUT: true; the input reads as it did. -/
def diskScriptsSpec : ChangeSpec := { name := "diskScripts", fn := fun _ => fun
  | [d1, d2] => { results := [.lit (.bool true)], args := [d1, d2] }
  | _ => none }
def diskScriptsRow : OpenClaim := { program := "ytihpobpkhhkejaa", sum := "b3561eed0e573751dd82be377ad947cf116e9c7fd3e9007c5e43d807201f83b0", func := "cadastre/cadastrelaw03.DiskScripts", spec := "diskScripts", inPlace := ["maps.clone"], apart := false }
def DiskScriptsSaid : Prop := diskScriptsRow.holds Try.pinned (OpenSpec.ofChange diskScriptsSpec)

/-- ITS FALSE NEIGHBOUR: 'it returns false'. Refute it at one input. -/
def diskScriptsWrong : ChangeSpec := { name := "diskScripts", fn := fun _ => fun
  | [d1, d2] => { results := [.lit (.bool false)], args := [d1, d2] }
  | _ => none }
def DiskScriptsWrongFalsely : Prop := diskScriptsRow.holds Try.pinned (OpenSpec.ofChange diskScriptsWrong)

/-- 'cadastrelaw04.WalFills': WHATEVER THE INPUT: true; the input reads as it did. -/
def walFillsSpec : ChangeSpec := { name := "walFills", fn := fun _ => fun
  | [d1, d2] => { results := [.lit (.bool true)], args := [d1, d2] }
  | _ => none }
def walFillsRow : OpenClaim := { program := "ytihpobpkhhkejaa", sum := "b3561eed0e573751dd82be377ad947cf116e9c7fd3e9007c5e43d807201f83b0", func := "cadastre/cadastrelaw04.WalFills", spec := "walFills", apart := false }
def WalFillsSaid : Prop := walFillsRow.holds Try.pinned (OpenSpec.ofChange walFillsSpec)

/-- ITS FALSE NEIGHBOUR: 'it returns false'. Refute it at one input. -/
def walFillsWrong : ChangeSpec := { name := "walFills", fn := fun _ => fun
  | [d1, d2] => { results := [.lit (.bool false)], args := [d1, d2] }
  | _ => none }
def WalFillsWrongFalsely : Prop := walFillsRow.holds Try.pinned (OpenSpec.ofChange walFillsWrong)

/-- 'cadastrelaw04.WalMany': WHATEVER THE INPUT: true; the input reads as it did. -/
def walManySpec : ChangeSpec := { name := "walMany", fn := fun _ => fun
  | [d1, d2] => { results := [.lit (.bool true)], args := [d1, d2] }
  | _ => none }
def walManyRow : OpenClaim := { program := "ytihpobpkhhkejaa", sum := "b3561eed0e573751dd82be377ad947cf116e9c7fd3e9007c5e43d807201f83b0", func := "cadastre/cadastrelaw04.WalMany", spec := "walMany", apart := false }
def WalManySaid : Prop := walManyRow.holds Try.pinned (OpenSpec.ofChange walManySpec)

/-- ITS FALSE NEIGHBOUR: 'it returns false'. Refute it at one input. -/
def walManyWrong : ChangeSpec := { name := "walMany", fn := fun _ => fun
  | [d1, d2] => { results := [.lit (.bool false)], args := [d1, d2] }
  | _ => none }
def WalManyWrongFalsely : Prop := walManyRow.holds Try.pinned (OpenSpec.ofChange walManyWrong)

/-- 'cadastrelaw04.WalGoesOn': WHATEVER THE INPUT: true; the input reads as it did. -/
def walGoesOnSpec : ChangeSpec := { name := "walGoesOn", fn := fun _ => fun
  | [d1, d2, d3] => { results := [.lit (.bool true)], args := [d1, d2, d3] }
  | _ => none }
def walGoesOnRow : OpenClaim := { program := "ytihpobpkhhkejaa", sum := "b3561eed0e573751dd82be377ad947cf116e9c7fd3e9007c5e43d807201f83b0", func := "cadastre/cadastrelaw04.WalGoesOn", spec := "walGoesOn", apart := false }
def WalGoesOnSaid : Prop := walGoesOnRow.holds Try.pinned (OpenSpec.ofChange walGoesOnSpec)

/-- ITS FALSE NEIGHBOUR: 'it returns false'. Refute it at one input. -/
def walGoesOnWrong : ChangeSpec := { name := "walGoesOn", fn := fun _ => fun
  | [d1, d2, d3] => { results := [.lit (.bool false)], args := [d1, d2, d3] }
  | _ => none }
def WalGoesOnWrongFalsely : Prop := walGoesOnRow.holds Try.pinned (OpenSpec.ofChange walGoesOnWrong)

/-- 'cadastrelaw04.WalReplay': WHATEVER THE INPUT: true; the input reads as it did. -/
def walReplaySpec : ChangeSpec := { name := "walReplay", fn := fun _ => fun
  | [d1, d2, d3] => { results := [.lit (.bool true)], args := [d1, d2, d3] }
  | _ => none }
def walReplayRow : OpenClaim := { program := "ytihpobpkhhkejaa", sum := "b3561eed0e573751dd82be377ad947cf116e9c7fd3e9007c5e43d807201f83b0", func := "cadastre/cadastrelaw04.WalReplay", spec := "walReplay", apart := false }
def WalReplaySaid : Prop := walReplayRow.holds Try.pinned (OpenSpec.ofChange walReplaySpec)

/-- ITS FALSE NEIGHBOUR: 'it returns false'. Refute it at one input. -/
def walReplayWrong : ChangeSpec := { name := "walReplay", fn := fun _ => fun
  | [d1, d2, d3] => { results := [.lit (.bool false)], args := [d1, d2, d3] }
  | _ => none }
def WalReplayWrongFalsely : Prop := walReplayRow.holds Try.pinned (OpenSpec.ofChange walReplayWrong)

/-- 'cadastrelaw04.WalResets': WHATEVER THE INPUT: true; the input reads as it did. -/
def walResetsSpec : ChangeSpec := { name := "walResets", fn := fun _ => fun
  | [d1, d2, d3] => { results := [.lit (.bool true)], args := [d1, d2, d3] }
  | _ => none }
def walResetsRow : OpenClaim := { program := "ytihpobpkhhkejaa", sum := "b3561eed0e573751dd82be377ad947cf116e9c7fd3e9007c5e43d807201f83b0", func := "cadastre/cadastrelaw04.WalResets", spec := "walResets", apart := false }
def WalResetsSaid : Prop := walResetsRow.holds Try.pinned (OpenSpec.ofChange walResetsSpec)

/-- ITS FALSE NEIGHBOUR: 'it returns false'. Refute it at one input. -/
def walResetsWrong : ChangeSpec := { name := "walResets", fn := fun _ => fun
  | [d1, d2, d3] => { results := [.lit (.bool false)], args := [d1, d2, d3] }
  | _ => none }
def WalResetsWrongFalsely : Prop := walResetsRow.holds Try.pinned (OpenSpec.ofChange walResetsWrong)

/-- 'cadastrelaw04.WalScripts': WHATEVER THE INPUT: true; the input reads as it did. -/
def walScriptsSpec : ChangeSpec := { name := "walScripts", fn := fun _ => fun
  | [d1, d2] => { results := [.lit (.bool true)], args := [d1, d2] }
  | _ => none }
def walScriptsRow : OpenClaim := { program := "ytihpobpkhhkejaa", sum := "b3561eed0e573751dd82be377ad947cf116e9c7fd3e9007c5e43d807201f83b0", func := "cadastre/cadastrelaw04.WalScripts", spec := "walScripts", apart := false }
def WalScriptsSaid : Prop := walScriptsRow.holds Try.pinned (OpenSpec.ofChange walScriptsSpec)

/-- ITS FALSE NEIGHBOUR: 'it returns false'. Refute it at one input. -/
def walScriptsWrong : ChangeSpec := { name := "walScripts", fn := fun _ => fun
  | [d1, d2] => { results := [.lit (.bool false)], args := [d1, d2] }
  | _ => none }
def WalScriptsWrongFalsely : Prop := walScriptsRow.holds Try.pinned (OpenSpec.ofChange walScriptsWrong)

/- THE SECOND FORM. 'bulk': how many values and letters a reading holds, each counted each time it is reached (what is shared counts as often as it is met; a slice's spare places count too). A statement '..UptoSaid' is the law's where the arguments, and the package variables that the reading takes, are together of bulk at most 1048576: NARROWER than '..Said'. Prove '..Said' where nothing that the law and all that it calls make is longer than what came in: it says more and counts as full. Else prove '..UptoSaid'. A law counts once. -/
mutual
def uptoBulk {H : Type} : DataW H → Nat
  | .lit (.string bytes) => bytes.length + 1
  | .lit _ => 1
  | .nil => 1
  | .ptr d => uptoBulk d + 1
  | .slice elems spare => uptoBulkAll elems + uptoBulkAll spare + 1
  | .agg parts => uptoBulkAll parts + 1
  | .iface _ d => uptoBulk d + 1
  | .map entries => uptoBulkEntries entries + 1
  | .held _ => 1
def uptoBulkAll {H : Type} : List (DataW H) → Nat
  | [] => 0
  | d :: r => uptoBulk d + uptoBulkAll r
def uptoBulkEntries {H : Type} : List (Lit × DataW H) → Nat
  | [] => 0
  | x :: r => uptoBulkEntry x + uptoBulkEntries r
def uptoBulkEntry {H : Type} : Lit × DataW H → Nat
  | (.string bytes, d) => bytes.length + uptoBulk d + 1
  | (_, d) => uptoBulk d + 1
 end
def uptoSmall : (H : Type) → List (DataW H) → Bool := fun _ ds => decide (uptoBulkAll ds ≤ 1048576)
def OpenSpec.upto (s : _root_.Go.ChangeSpec) : _root_.Go.OpenSpec := { _root_.Go.OpenSpec.ofChange s with cond := some uptoSmall }

/-- 'cadastrelaw03.DiskKeeps', WHERE WHAT IT READS IS OF BULK AT MOST 1048576: true; the input reads as it did. -/
def diskKeepsUptoRow : OpenClaim := { program := "ytihpobpkhhkejaa", sum := "b3561eed0e573751dd82be377ad947cf116e9c7fd3e9007c5e43d807201f83b0", func := "cadastre/cadastrelaw03.DiskKeeps", spec := "diskKeeps", apart := false, narrowed := true }
def DiskKeepsUptoSaid : Prop := diskKeepsUptoRow.holds Try.pinned (OpenSpec.upto diskKeepsSpec)

/-- 'cadastrelaw03.DiskCounts', WHERE WHAT IT READS IS OF BULK AT MOST 1048576: true; the input reads as it did. -/
def diskCountsUptoRow : OpenClaim := { program := "ytihpobpkhhkejaa", sum := "b3561eed0e573751dd82be377ad947cf116e9c7fd3e9007c5e43d807201f83b0", func := "cadastre/cadastrelaw03.DiskCounts", spec := "diskCounts", apart := false, narrowed := true }
def DiskCountsUptoSaid : Prop := diskCountsUptoRow.holds Try.pinned (OpenSpec.upto diskCountsSpec)

/-- 'cadastrelaw03.DiskAll', WHERE WHAT IT READS IS OF BULK AT MOST 1048576: true; the input reads as it did. -/
def diskAllUptoRow : OpenClaim := { program := "ytihpobpkhhkejaa", sum := "b3561eed0e573751dd82be377ad947cf116e9c7fd3e9007c5e43d807201f83b0", func := "cadastre/cadastrelaw03.DiskAll", spec := "diskAll", inPlace := ["maps.clone"], apart := false, narrowed := true }
def DiskAllUptoSaid : Prop := diskAllUptoRow.holds Try.pinned (OpenSpec.upto diskAllSpec)

/-- 'cadastrelaw03.DiskArms', WHERE WHAT IT READS IS OF BULK AT MOST 1048576: true; the input reads as it did. -/
def diskArmsUptoRow : OpenClaim := { program := "ytihpobpkhhkejaa", sum := "b3561eed0e573751dd82be377ad947cf116e9c7fd3e9007c5e43d807201f83b0", func := "cadastre/cadastrelaw03.DiskArms", spec := "diskArms", inPlace := ["maps.clone"], apart := false, narrowed := true }
def DiskArmsUptoSaid : Prop := diskArmsUptoRow.holds Try.pinned (OpenSpec.upto diskArmsSpec)

/-- 'cadastrelaw03.DiskScripts', WHERE WHAT IT READS IS OF BULK AT MOST 1048576: true; the input reads as it did. -/
def diskScriptsUptoRow : OpenClaim := { program := "ytihpobpkhhkejaa", sum := "b3561eed0e573751dd82be377ad947cf116e9c7fd3e9007c5e43d807201f83b0", func := "cadastre/cadastrelaw03.DiskScripts", spec := "diskScripts", inPlace := ["maps.clone"], apart := false, narrowed := true }
def DiskScriptsUptoSaid : Prop := diskScriptsUptoRow.holds Try.pinned (OpenSpec.upto diskScriptsSpec)

/-- 'cadastrelaw04.WalFills', WHERE WHAT IT READS IS OF BULK AT MOST 1048576: true; the input reads as it did. -/
def walFillsUptoRow : OpenClaim := { program := "ytihpobpkhhkejaa", sum := "b3561eed0e573751dd82be377ad947cf116e9c7fd3e9007c5e43d807201f83b0", func := "cadastre/cadastrelaw04.WalFills", spec := "walFills", apart := false, narrowed := true }
def WalFillsUptoSaid : Prop := walFillsUptoRow.holds Try.pinned (OpenSpec.upto walFillsSpec)

/-- 'cadastrelaw04.WalMany', WHERE WHAT IT READS IS OF BULK AT MOST 1048576: true; the input reads as it did. -/
def walManyUptoRow : OpenClaim := { program := "ytihpobpkhhkejaa", sum := "b3561eed0e573751dd82be377ad947cf116e9c7fd3e9007c5e43d807201f83b0", func := "cadastre/cadastrelaw04.WalMany", spec := "walMany", apart := false, narrowed := true }
def WalManyUptoSaid : Prop := walManyUptoRow.holds Try.pinned (OpenSpec.upto walManySpec)

/-- 'cadastrelaw04.WalGoesOn', WHERE WHAT IT READS IS OF BULK AT MOST 1048576: true; the input reads as it did. -/
def walGoesOnUptoRow : OpenClaim := { program := "ytihpobpkhhkejaa", sum := "b3561eed0e573751dd82be377ad947cf116e9c7fd3e9007c5e43d807201f83b0", func := "cadastre/cadastrelaw04.WalGoesOn", spec := "walGoesOn", apart := false, narrowed := true }
def WalGoesOnUptoSaid : Prop := walGoesOnUptoRow.holds Try.pinned (OpenSpec.upto walGoesOnSpec)

/-- 'cadastrelaw04.WalReplay', WHERE WHAT IT READS IS OF BULK AT MOST 1048576: true; the input reads as it did. -/
def walReplayUptoRow : OpenClaim := { program := "ytihpobpkhhkejaa", sum := "b3561eed0e573751dd82be377ad947cf116e9c7fd3e9007c5e43d807201f83b0", func := "cadastre/cadastrelaw04.WalReplay", spec := "walReplay", apart := false, narrowed := true }
def WalReplayUptoSaid : Prop := walReplayUptoRow.holds Try.pinned (OpenSpec.upto walReplaySpec)

/-- 'cadastrelaw04.WalResets', WHERE WHAT IT READS IS OF BULK AT MOST 1048576: true; the input reads as it did. -/
def walResetsUptoRow : OpenClaim := { program := "ytihpobpkhhkejaa", sum := "b3561eed0e573751dd82be377ad947cf116e9c7fd3e9007c5e43d807201f83b0", func := "cadastre/cadastrelaw04.WalResets", spec := "walResets", apart := false, narrowed := true }
def WalResetsUptoSaid : Prop := walResetsUptoRow.holds Try.pinned (OpenSpec.upto walResetsSpec)

/-- 'cadastrelaw04.WalScripts', WHERE WHAT IT READS IS OF BULK AT MOST 1048576: true; the input reads as it did. -/
def walScriptsUptoRow : OpenClaim := { program := "ytihpobpkhhkejaa", sum := "b3561eed0e573751dd82be377ad947cf116e9c7fd3e9007c5e43d807201f83b0", func := "cadastre/cadastrelaw04.WalScripts", spec := "walScripts", apart := false, narrowed := true }
def WalScriptsUptoSaid : Prop := walScriptsUptoRow.holds Try.pinned (OpenSpec.upto walScriptsSpec)

end Rows
end Go.Proofs.Ytihpobpkhhkejaa
