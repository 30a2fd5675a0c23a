/-
  No cell of these rows narrows 'for every input' (looked for: loops, veiled, ifaces, maps, wideKeys, modest, calm, conditions, laid).
  DERIVED. THE GIVEN ROWS OF THIS SEAT. 8 by the template 'for every input the law returns true; each argument reads behind the call as it read before'; 0 by the template 'total and deterministic' (their statements: YtonlemmcdecibaaTotals.lean).
  GIVEN WITH THE SEED: the statements are not yours to turn. If you find one false, say at which input.
  Laid BY PROGRAM, IN A SANDBOX (cutbox-rows.mjs): the forced cells as the released guide's own fill.sh prints them over the translation 3248f44ddcf245be… (all of the seat's roots in one cut). By AI agents, Wed Nov 11 2026. No macro, syntax, notation, axiom, sorry.
-/
import Derived.Test.YtonlemmcdecibaaChecked
import GoSem.Claim
import GoSem.ClaimJoined
import GoSem.ClaimMapViews
import Derived.JoinedTies
import Derived.KernelRfl
namespace Go.Proofs.Ytonlemmcdecibaa
/- THE CELL 'sum', in the pinned program and in every row, IS THE sha256 OF THE DUMP (.gsa) THAT YtonlemmcdecibaaProg.lean LOADS. Nothing in Lean hashes anything: it is a label: what it is worth is what the hold of that sum in a sandbox is worth. -/
noncomputable def Try.pinned : Pinned := { name := "ytonlemmcdecibaa", sum := "3248f44ddcf245be47192c57df1f4210f965095b738c93e56038e3d0d31af873", checked := Try.checked }
namespace Rows
def none {H : Type} : Left H := { results := [], args := [] }

/-- 'quoinlaw19.CachefileScans': WHATEVER THE INPUT: true; the input reads as it did. -/
def cachefileScansSpec : ChangeSpec := { name := "cachefileScans", fn := fun _ => fun
  | [d1, d2, d3] => { results := [.lit (.bool true)], args := [d1, d2, d3] }
  | _ => none }
def cachefileScansRow : OpenClaim := { program := "ytonlemmcdecibaa", sum := "3248f44ddcf245be47192c57df1f4210f965095b738c93e56038e3d0d31af873", func := "quoin/quoinlaw19.CachefileScans", spec := "cachefileScans", unfollowed := true, recurses := true, apart := false }
def CachefileScansSaid : Prop := cachefileScansRow.holds Try.pinned (OpenSpec.ofChange cachefileScansSpec)

/-- ITS FALSE NEIGHBOUR: 'it returns false'. Refute it at one input. -/
def cachefileScansWrong : ChangeSpec := { name := "cachefileScans", fn := fun _ => fun
  | [d1, d2, d3] => { results := [.lit (.bool false)], args := [d1, d2, d3] }
  | _ => none }
def CachefileScansWrongFalsely : Prop := cachefileScansRow.holds Try.pinned (OpenSpec.ofChange cachefileScansWrong)

/-- 'quoinlaw19.CachefileRuns': WHATEVER THE INPUT: true; the input reads as it did. -/
def cachefileRunsSpec : ChangeSpec := { name := "cachefileRuns", fn := fun _ => fun
  | [d1, d2, d3] => { results := [.lit (.bool true)], args := [d1, d2, d3] }
  | _ => none }
def cachefileRunsRow : OpenClaim := { program := "ytonlemmcdecibaa", sum := "3248f44ddcf245be47192c57df1f4210f965095b738c93e56038e3d0d31af873", func := "quoin/quoinlaw19.CachefileRuns", spec := "cachefileRuns", unfollowed := true, recurses := true, apart := false }
def CachefileRunsSaid : Prop := cachefileRunsRow.holds Try.pinned (OpenSpec.ofChange cachefileRunsSpec)

/-- ITS FALSE NEIGHBOUR: 'it returns false'. Refute it at one input. -/
def cachefileRunsWrong : ChangeSpec := { name := "cachefileRuns", fn := fun _ => fun
  | [d1, d2, d3] => { results := [.lit (.bool false)], args := [d1, d2, d3] }
  | _ => none }
def CachefileRunsWrongFalsely : Prop := cachefileRunsRow.holds Try.pinned (OpenSpec.ofChange cachefileRunsWrong)

/-- 'quoinlaw19.CachefileLasts': WHATEVER THE INPUT: true; the input reads as it did. -/
def cachefileLastsSpec : ChangeSpec := { name := "cachefileLasts", fn := fun _ => fun
  | [d1, d2, d3, d4] => { results := [.lit (.bool true)], args := [d1, d2, d3, d4] }
  | _ => none }
def cachefileLastsRow : OpenClaim := { program := "ytonlemmcdecibaa", sum := "3248f44ddcf245be47192c57df1f4210f965095b738c93e56038e3d0d31af873", func := "quoin/quoinlaw19.CachefileLasts", spec := "cachefileLasts", unfollowed := true, recurses := true, apart := false }
def CachefileLastsSaid : Prop := cachefileLastsRow.holds Try.pinned (OpenSpec.ofChange cachefileLastsSpec)

/-- ITS FALSE NEIGHBOUR: 'it returns false'. Refute it at one input. -/
def cachefileLastsWrong : ChangeSpec := { name := "cachefileLasts", fn := fun _ => fun
  | [d1, d2, d3, d4] => { results := [.lit (.bool false)], args := [d1, d2, d3, d4] }
  | _ => none }
def CachefileLastsWrongFalsely : Prop := cachefileLastsRow.holds Try.pinned (OpenSpec.ofChange cachefileLastsWrong)

/-- 'quoinlaw19.CachefileNil': WHATEVER THE INPUT: true; the input reads as it did. -/
def cachefileNilSpec : ChangeSpec := { name := "cachefileNil", fn := fun _ => fun
  | [d] => { results := [.lit (.bool true)], args := [d] }
  | _ => none }
def cachefileNilRow : OpenClaim := { program := "ytonlemmcdecibaa", sum := "3248f44ddcf245be47192c57df1f4210f965095b738c93e56038e3d0d31af873", func := "quoin/quoinlaw19.CachefileNil", spec := "cachefileNil", unfollowed := true, recurses := true, apart := false }
def CachefileNilSaid : Prop := cachefileNilRow.holds Try.pinned (OpenSpec.ofChange cachefileNilSpec)

/-- ITS FALSE NEIGHBOUR: 'it returns false'. Refute it at one input. -/
def cachefileNilWrong : ChangeSpec := { name := "cachefileNil", fn := fun _ => fun
  | [d] => { results := [.lit (.bool false)], args := [d] }
  | _ => none }
def CachefileNilWrongFalsely : Prop := cachefileNilRow.holds Try.pinned (OpenSpec.ofChange cachefileNilWrong)

/-- 'quoinlaw19.CachefileNames': WHATEVER THE INPUT: true; the input reads as it did. -/
def cachefileNamesSpec : ChangeSpec := { name := "cachefileNames", fn := fun _ => fun
  | [] => { results := [.lit (.bool true)], args := [] }
  | _ => none }
def cachefileNamesRow : OpenClaim := { program := "ytonlemmcdecibaa", sum := "3248f44ddcf245be47192c57df1f4210f965095b738c93e56038e3d0d31af873", func := "quoin/quoinlaw19.CachefileNames", spec := "cachefileNames", unfollowed := true, recurses := true, apart := false }
def CachefileNamesSaid : Prop := cachefileNamesRow.holds Try.pinned (OpenSpec.ofChange cachefileNamesSpec)

/-- ITS FALSE NEIGHBOUR: 'it returns false'. Refute it at one input. -/
def cachefileNamesWrong : ChangeSpec := { name := "cachefileNames", fn := fun _ => fun
  | [] => { results := [.lit (.bool false)], args := [] }
  | _ => none }
def CachefileNamesWrongFalsely : Prop := cachefileNamesRow.holds Try.pinned (OpenSpec.ofChange cachefileNamesWrong)

/-- 'quoinlaw19.CachefileCutBytes': WHATEVER THE INPUT: true; the input reads as it did. -/
def cachefileCutBytesSpec : ChangeSpec := { name := "cachefileCutBytes", fn := fun _ => fun
  | [d1, d2] => { results := [.lit (.bool true)], args := [d1, d2] }
  | _ => none }
def cachefileCutBytesRow : OpenClaim := { program := "ytonlemmcdecibaa", sum := "3248f44ddcf245be47192c57df1f4210f965095b738c93e56038e3d0d31af873", func := "quoin/quoinlaw19.CachefileCutBytes", spec := "cachefileCutBytes", unfollowed := true, recurses := true, apart := false }
def CachefileCutBytesSaid : Prop := cachefileCutBytesRow.holds Try.pinned (OpenSpec.ofChange cachefileCutBytesSpec)

/-- ITS FALSE NEIGHBOUR: 'it returns false'. Refute it at one input. -/
def cachefileCutBytesWrong : ChangeSpec := { name := "cachefileCutBytes", fn := fun _ => fun
  | [d1, d2] => { results := [.lit (.bool false)], args := [d1, d2] }
  | _ => none }
def CachefileCutBytesWrongFalsely : Prop := cachefileCutBytesRow.holds Try.pinned (OpenSpec.ofChange cachefileCutBytesWrong)

/-- 'quoinlaw19.CachefileCuts': WHATEVER THE INPUT: true; the input reads as it did. -/
def cachefileCutsSpec : ChangeSpec := { name := "cachefileCuts", fn := fun _ => fun
  | [d1, d2, d3, d4] => { results := [.lit (.bool true)], args := [d1, d2, d3, d4] }
  | _ => none }
def cachefileCutsRow : OpenClaim := { program := "ytonlemmcdecibaa", sum := "3248f44ddcf245be47192c57df1f4210f965095b738c93e56038e3d0d31af873", func := "quoin/quoinlaw19.CachefileCuts", spec := "cachefileCuts", unfollowed := true, recurses := true, apart := false }
def CachefileCutsSaid : Prop := cachefileCutsRow.holds Try.pinned (OpenSpec.ofChange cachefileCutsSpec)

/-- ITS FALSE NEIGHBOUR: 'it returns false'. Refute it at one input. -/
def cachefileCutsWrong : ChangeSpec := { name := "cachefileCuts", fn := fun _ => fun
  | [d1, d2, d3, d4] => { results := [.lit (.bool false)], args := [d1, d2, d3, d4] }
  | _ => none }
def CachefileCutsWrongFalsely : Prop := cachefileCutsRow.holds Try.pinned (OpenSpec.ofChange cachefileCutsWrong)

/-- 'quoinlaw19.CachefilePlays': WHATEVER THE INPUT: true; the input reads as it did. -/
def cachefilePlaysSpec : ChangeSpec := { name := "cachefilePlays", fn := fun _ => fun
  | [d1, d2, d3] => { results := [.lit (.bool true)], args := [d1, d2, d3] }
  | _ => none }
def cachefilePlaysRow : OpenClaim := { program := "ytonlemmcdecibaa", sum := "3248f44ddcf245be47192c57df1f4210f965095b738c93e56038e3d0d31af873", func := "quoin/quoinlaw19.CachefilePlays", spec := "cachefilePlays", unfollowed := true, recurses := true, apart := false }
def CachefilePlaysSaid : Prop := cachefilePlaysRow.holds Try.pinned (OpenSpec.ofChange cachefilePlaysSpec)

/-- ITS FALSE NEIGHBOUR: 'it returns false'. Refute it at one input. -/
def cachefilePlaysWrong : ChangeSpec := { name := "cachefilePlays", fn := fun _ => fun
  | [d1, d2, d3] => { results := [.lit (.bool false)], args := [d1, d2, d3] }
  | _ => none }
def CachefilePlaysWrongFalsely : Prop := cachefilePlaysRow.holds Try.pinned (OpenSpec.ofChange cachefilePlaysWrong)

/- THE SECOND FORM. 'bulk': how many values and letters a reading holds, each counted each time it is reached (what is shared counts as often as it is met; a slice's spare places count too). A statement '..UptoSaid' is the law's where the arguments, and the package variables that the reading takes, are together of bulk at most 1048576: NARROWER than '..Said'. Prove '..Said' where nothing that the law and all that it calls make is longer than what came in: it says more and counts as full. Else prove '..UptoSaid'. A law counts once. -/
mutual
def uptoBulk {H : Type} : DataW H → Nat
  | .lit (.string bytes) => bytes.length + 1
  | .lit _ => 1
  | .nil => 1
  | .ptr d => uptoBulk d + 1
  | .slice elems spare => uptoBulkAll elems + uptoBulkAll spare + 1
  | .agg parts => uptoBulkAll parts + 1
  | .iface _ d => uptoBulk d + 1
  | .map entries => uptoBulkEntries entries + 1
  | .held _ => 1
def uptoBulkAll {H : Type} : List (DataW H) → Nat
  | [] => 0
  | d :: r => uptoBulk d + uptoBulkAll r
def uptoBulkEntries {H : Type} : List (Lit × DataW H) → Nat
  | [] => 0
  | x :: r => uptoBulkEntry x + uptoBulkEntries r
def uptoBulkEntry {H : Type} : Lit × DataW H → Nat
  | (.string bytes, d) => bytes.length + uptoBulk d + 1
  | (_, d) => uptoBulk d + 1
 end
def uptoSmall : (H : Type) → List (DataW H) → Bool := fun _ ds => decide (uptoBulkAll ds ≤ 1048576)
def OpenSpec.upto (s : _root_.Go.ChangeSpec) : _root_.Go.OpenSpec := { _root_.Go.OpenSpec.ofChange s with cond := some uptoSmall }

/-- 'quoinlaw19.CachefileScans', WHERE WHAT IT READS IS OF BULK AT MOST 1048576: true; the input reads as it did. -/
def cachefileScansUptoRow : OpenClaim := { program := "ytonlemmcdecibaa", sum := "3248f44ddcf245be47192c57df1f4210f965095b738c93e56038e3d0d31af873", func := "quoin/quoinlaw19.CachefileScans", spec := "cachefileScans", unfollowed := true, recurses := true, apart := false, narrowed := true }
def CachefileScansUptoSaid : Prop := cachefileScansUptoRow.holds Try.pinned (OpenSpec.upto cachefileScansSpec)

/-- 'quoinlaw19.CachefileRuns', WHERE WHAT IT READS IS OF BULK AT MOST 1048576: true; the input reads as it did. -/
def cachefileRunsUptoRow : OpenClaim := { program := "ytonlemmcdecibaa", sum := "3248f44ddcf245be47192c57df1f4210f965095b738c93e56038e3d0d31af873", func := "quoin/quoinlaw19.CachefileRuns", spec := "cachefileRuns", unfollowed := true, recurses := true, apart := false, narrowed := true }
def CachefileRunsUptoSaid : Prop := cachefileRunsUptoRow.holds Try.pinned (OpenSpec.upto cachefileRunsSpec)

/-- 'quoinlaw19.CachefileLasts', WHERE WHAT IT READS IS OF BULK AT MOST 1048576: true; the input reads as it did. -/
def cachefileLastsUptoRow : OpenClaim := { program := "ytonlemmcdecibaa", sum := "3248f44ddcf245be47192c57df1f4210f965095b738c93e56038e3d0d31af873", func := "quoin/quoinlaw19.CachefileLasts", spec := "cachefileLasts", unfollowed := true, recurses := true, apart := false, narrowed := true }
def CachefileLastsUptoSaid : Prop := cachefileLastsUptoRow.holds Try.pinned (OpenSpec.upto cachefileLastsSpec)

/-- 'quoinlaw19.CachefileNil', WHERE WHAT IT READS IS OF BULK AT MOST 1048576: true; the input reads as it did. -/
def cachefileNilUptoRow : OpenClaim := { program := "ytonlemmcdecibaa", sum := "3248f44ddcf245be47192c57df1f4210f965095b738c93e56038e3d0d31af873", func := "quoin/quoinlaw19.CachefileNil", spec := "cachefileNil", unfollowed := true, recurses := true, apart := false, narrowed := true }
def CachefileNilUptoSaid : Prop := cachefileNilUptoRow.holds Try.pinned (OpenSpec.upto cachefileNilSpec)

/-- 'quoinlaw19.CachefileNames', WHERE WHAT IT READS IS OF BULK AT MOST 1048576: true; the input reads as it did. -/
def cachefileNamesUptoRow : OpenClaim := { program := "ytonlemmcdecibaa", sum := "3248f44ddcf245be47192c57df1f4210f965095b738c93e56038e3d0d31af873", func := "quoin/quoinlaw19.CachefileNames", spec := "cachefileNames", unfollowed := true, recurses := true, apart := false, narrowed := true }
def CachefileNamesUptoSaid : Prop := cachefileNamesUptoRow.holds Try.pinned (OpenSpec.upto cachefileNamesSpec)

/-- 'quoinlaw19.CachefileCutBytes', WHERE WHAT IT READS IS OF BULK AT MOST 1048576: true; the input reads as it did. -/
def cachefileCutBytesUptoRow : OpenClaim := { program := "ytonlemmcdecibaa", sum := "3248f44ddcf245be47192c57df1f4210f965095b738c93e56038e3d0d31af873", func := "quoin/quoinlaw19.CachefileCutBytes", spec := "cachefileCutBytes", unfollowed := true, recurses := true, apart := false, narrowed := true }
def CachefileCutBytesUptoSaid : Prop := cachefileCutBytesUptoRow.holds Try.pinned (OpenSpec.upto cachefileCutBytesSpec)

/-- 'quoinlaw19.CachefileCuts', WHERE WHAT IT READS IS OF BULK AT MOST 1048576: true; the input reads as it did. -/
def cachefileCutsUptoRow : OpenClaim := { program := "ytonlemmcdecibaa", sum := "3248f44ddcf245be47192c57df1f4210f965095b738c93e56038e3d0d31af873", func := "quoin/quoinlaw19.CachefileCuts", spec := "cachefileCuts", unfollowed := true, recurses := true, apart := false, narrowed := true }
def CachefileCutsUptoSaid : Prop := cachefileCutsUptoRow.holds Try.pinned (OpenSpec.upto cachefileCutsSpec)

/-- 'quoinlaw19.CachefilePlays', WHERE WHAT IT READS IS OF BULK AT MOST 1048576: true; the input reads as it did. -/
def cachefilePlaysUptoRow : OpenClaim := { program := "ytonlemmcdecibaa", sum := "3248f44ddcf245be47192c57df1f4210f965095b738c93e56038e3d0d31af873", func := "quoin/quoinlaw19.CachefilePlays", spec := "cachefilePlays", unfollowed := true, recurses := true, apart := false, narrowed := true }
def CachefilePlaysUptoSaid : Prop := cachefilePlaysUptoRow.holds Try.pinned (OpenSpec.upto cachefilePlaysSpec)

end Rows
end Go.Proofs.Ytonlemmcdecibaa
