/-
  No cell of these rows narrows 'for every input' (looked for: loops, veiled, ifaces, maps, wideKeys, modest, calm, conditions, laid).
  DERIVED. THE GIVEN ROWS OF THIS SEAT. 6 by the template 'for every input the law returns true; each argument reads behind the call as it read before'; 0 by the template 'total and deterministic' (their statements: YtdmpeinbbcjamaaTotals.lean).
  GIVEN WITH THE SEED: the statements are not yours to turn. If you find one false, say at which input.
  Laid BY PROGRAM, IN A SANDBOX (cutbox-rows.mjs): the forced cells as the released guide's own fill.sh prints them over the translation 916ba2cfacf90918… (all of the seat's roots in one cut). By AI agents, Wed Nov 11 2026. No macro, syntax, notation, axiom, sorry.
-/
import Derived.Test.YtdmpeinbbcjamaaChecked
import GoSem.Claim
import GoSem.ClaimJoined
import GoSem.ClaimMapViews
import Derived.JoinedTies
import Derived.KernelRfl
namespace Go.Proofs.Ytdmpeinbbcjamaa
/- THE CELL 'sum', in the pinned program and in every row, IS THE sha256 OF THE DUMP (.gsa) THAT YtdmpeinbbcjamaaProg.lean LOADS. Nothing in Lean hashes anything: it is a label: what it is worth is what the hold of that sum in a sandbox is worth. -/
noncomputable def Try.pinned : Pinned := { name := "ytdmpeinbbcjamaa", sum := "916ba2cfacf9091877c1225fdc0979ea25912fb9beb1459676c663fc08e5eb85", checked := Try.checked }
namespace Rows
def none {H : Type} : Left H := { results := [], args := [] }

/-- 'quoinlaw18.DiskNames': WHATEVER THE INPUT: true; the input reads as it did. -/
def diskNamesSpec : ChangeSpec := { name := "diskNames", fn := fun _ => fun
  | [] => { results := [.lit (.bool true)], args := [] }
  | _ => none }
def diskNamesRow : OpenClaim := { program := "ytdmpeinbbcjamaa", sum := "916ba2cfacf9091877c1225fdc0979ea25912fb9beb1459676c663fc08e5eb85", func := "quoin/quoinlaw18.DiskNames", spec := "diskNames", apart := false }
def DiskNamesSaid : Prop := diskNamesRow.holds Try.pinned (OpenSpec.ofChange diskNamesSpec)

/-- ITS FALSE NEIGHBOUR: 'it returns false'. Refute it at one input. -/
def diskNamesWrong : ChangeSpec := { name := "diskNames", fn := fun _ => fun
  | [] => { results := [.lit (.bool false)], args := [] }
  | _ => none }
def DiskNamesWrongFalsely : Prop := diskNamesRow.holds Try.pinned (OpenSpec.ofChange diskNamesWrong)

/-- 'quoinlaw18.DiskPlays': WHATEVER THE INPUT: true; the input reads as it did. -/
def diskPlaysSpec : ChangeSpec := { name := "diskPlays", fn := fun _ => fun
  | [d] => { results := [.lit (.bool true)], args := [d] }
  | _ => none }
def diskPlaysRow : OpenClaim := { program := "ytdmpeinbbcjamaa", sum := "916ba2cfacf9091877c1225fdc0979ea25912fb9beb1459676c663fc08e5eb85", func := "quoin/quoinlaw18.DiskPlays", spec := "diskPlays", apart := false }
def DiskPlaysSaid : Prop := diskPlaysRow.holds Try.pinned (OpenSpec.ofChange diskPlaysSpec)

/-- ITS FALSE NEIGHBOUR: 'it returns false'. Refute it at one input. -/
def diskPlaysWrong : ChangeSpec := { name := "diskPlays", fn := fun _ => fun
  | [d] => { results := [.lit (.bool false)], args := [d] }
  | _ => none }
def DiskPlaysWrongFalsely : Prop := diskPlaysRow.holds Try.pinned (OpenSpec.ofChange diskPlaysWrong)

/-- 'quoinlaw18.DiskNil': WHATEVER THE INPUT: true; the input reads as it did. -/
def diskNilSpec : ChangeSpec := { name := "diskNil", fn := fun _ => fun
  | [d1, d2] => { results := [.lit (.bool true)], args := [d1, d2] }
  | _ => none }
def diskNilRow : OpenClaim := { program := "ytdmpeinbbcjamaa", sum := "916ba2cfacf9091877c1225fdc0979ea25912fb9beb1459676c663fc08e5eb85", func := "quoin/quoinlaw18.DiskNil", spec := "diskNil", apart := false }
def DiskNilSaid : Prop := diskNilRow.holds Try.pinned (OpenSpec.ofChange diskNilSpec)

/-- ITS FALSE NEIGHBOUR: 'it returns false'. Refute it at one input. -/
def diskNilWrong : ChangeSpec := { name := "diskNil", fn := fun _ => fun
  | [d1, d2] => { results := [.lit (.bool false)], args := [d1, d2] }
  | _ => none }
def DiskNilWrongFalsely : Prop := diskNilRow.holds Try.pinned (OpenSpec.ofChange diskNilWrong)

/-- 'quoinlaw18.DiskReplays': WHATEVER THE INPUT: true; the input reads as it did. -/
def diskReplaysSpec : ChangeSpec := { name := "diskReplays", fn := fun _ => fun
  | [d] => { results := [.lit (.bool true)], args := [d] }
  | _ => none }
def diskReplaysRow : OpenClaim := { program := "ytdmpeinbbcjamaa", sum := "916ba2cfacf9091877c1225fdc0979ea25912fb9beb1459676c663fc08e5eb85", func := "quoin/quoinlaw18.DiskReplays", spec := "diskReplays", apart := false }
def DiskReplaysSaid : Prop := diskReplaysRow.holds Try.pinned (OpenSpec.ofChange diskReplaysSpec)

/-- ITS FALSE NEIGHBOUR: 'it returns false'. Refute it at one input. -/
def diskReplaysWrong : ChangeSpec := { name := "diskReplays", fn := fun _ => fun
  | [d] => { results := [.lit (.bool false)], args := [d] }
  | _ => none }
def DiskReplaysWrongFalsely : Prop := diskReplaysRow.holds Try.pinned (OpenSpec.ofChange diskReplaysWrong)

/-- 'quoinlaw18.DiskFuses': WHATEVER THE INPUT: true; the input reads as it did. -/
def diskFusesSpec : ChangeSpec := { name := "diskFuses", fn := fun _ => fun
  | [d1, d2] => { results := [.lit (.bool true)], args := [d1, d2] }
  | _ => none }
def diskFusesRow : OpenClaim := { program := "ytdmpeinbbcjamaa", sum := "916ba2cfacf9091877c1225fdc0979ea25912fb9beb1459676c663fc08e5eb85", func := "quoin/quoinlaw18.DiskFuses", spec := "diskFuses", apart := false }
def DiskFusesSaid : Prop := diskFusesRow.holds Try.pinned (OpenSpec.ofChange diskFusesSpec)

/-- ITS FALSE NEIGHBOUR: 'it returns false'. Refute it at one input. -/
def diskFusesWrong : ChangeSpec := { name := "diskFuses", fn := fun _ => fun
  | [d1, d2] => { results := [.lit (.bool false)], args := [d1, d2] }
  | _ => none }
def DiskFusesWrongFalsely : Prop := diskFusesRow.holds Try.pinned (OpenSpec.ofChange diskFusesWrong)

/-- 'quoinlaw18.DiskAlone': WHATEVER THE INPUT: true; the input reads as it did. -/
def diskAloneSpec : ChangeSpec := { name := "diskAlone", fn := fun _ => fun
  | [d1, d2] => { results := [.lit (.bool true)], args := [d1, d2] }
  | _ => none }
def diskAloneRow : OpenClaim := { program := "ytdmpeinbbcjamaa", sum := "916ba2cfacf9091877c1225fdc0979ea25912fb9beb1459676c663fc08e5eb85", func := "quoin/quoinlaw18.DiskAlone", spec := "diskAlone", apart := false }
def DiskAloneSaid : Prop := diskAloneRow.holds Try.pinned (OpenSpec.ofChange diskAloneSpec)

/-- ITS FALSE NEIGHBOUR: 'it returns false'. Refute it at one input. -/
def diskAloneWrong : ChangeSpec := { name := "diskAlone", fn := fun _ => fun
  | [d1, d2] => { results := [.lit (.bool false)], args := [d1, d2] }
  | _ => none }
def DiskAloneWrongFalsely : Prop := diskAloneRow.holds Try.pinned (OpenSpec.ofChange diskAloneWrong)

/- THE SECOND FORM. 'bulk': how many values and letters a reading holds, each counted each time it is reached (what is shared counts as often as it is met; a slice's spare places count too). A statement '..UptoSaid' is the law's where the arguments, and the package variables that the reading takes, are together of bulk at most 1048576: NARROWER than '..Said'. Prove '..Said' where nothing that the law and all that it calls make is longer than what came in: it says more and counts as full. Else prove '..UptoSaid'. A law counts once. -/
mutual
def uptoBulk {H : Type} : DataW H → Nat
  | .lit (.string bytes) => bytes.length + 1
  | .lit _ => 1
  | .nil => 1
  | .ptr d => uptoBulk d + 1
  | .slice elems spare => uptoBulkAll elems + uptoBulkAll spare + 1
  | .agg parts => uptoBulkAll parts + 1
  | .iface _ d => uptoBulk d + 1
  | .map entries => uptoBulkEntries entries + 1
  | .held _ => 1
def uptoBulkAll {H : Type} : List (DataW H) → Nat
  | [] => 0
  | d :: r => uptoBulk d + uptoBulkAll r
def uptoBulkEntries {H : Type} : List (Lit × DataW H) → Nat
  | [] => 0
  | x :: r => uptoBulkEntry x + uptoBulkEntries r
def uptoBulkEntry {H : Type} : Lit × DataW H → Nat
  | (.string bytes, d) => bytes.length + uptoBulk d + 1
  | (_, d) => uptoBulk d + 1
 end
def uptoSmall : (H : Type) → List (DataW H) → Bool := fun _ ds => decide (uptoBulkAll ds ≤ 1048576)
def OpenSpec.upto (s : _root_.Go.ChangeSpec) : _root_.Go.OpenSpec := { _root_.Go.OpenSpec.ofChange s with cond := some uptoSmall }

/-- 'quoinlaw18.DiskNames', WHERE WHAT IT READS IS OF BULK AT MOST 1048576: true; the input reads as it did. -/
def diskNamesUptoRow : OpenClaim := { program := "ytdmpeinbbcjamaa", sum := "916ba2cfacf9091877c1225fdc0979ea25912fb9beb1459676c663fc08e5eb85", func := "quoin/quoinlaw18.DiskNames", spec := "diskNames", apart := false, narrowed := true }
def DiskNamesUptoSaid : Prop := diskNamesUptoRow.holds Try.pinned (OpenSpec.upto diskNamesSpec)

/-- 'quoinlaw18.DiskPlays', WHERE WHAT IT READS IS OF BULK AT MOST 1048576: true; the input reads as it did. -/
def diskPlaysUptoRow : OpenClaim := { program := "ytdmpeinbbcjamaa", sum := "916ba2cfacf9091877c1225fdc0979ea25912fb9beb1459676c663fc08e5eb85", func := "quoin/quoinlaw18.DiskPlays", spec := "diskPlays", apart := false, narrowed := true }
def DiskPlaysUptoSaid : Prop := diskPlaysUptoRow.holds Try.pinned (OpenSpec.upto diskPlaysSpec)

/-- 'quoinlaw18.DiskNil', WHERE WHAT IT READS IS OF BULK AT MOST 1048576: true; the input reads as it did. -/
def diskNilUptoRow : OpenClaim := { program := "ytdmpeinbbcjamaa", sum := "916ba2cfacf9091877c1225fdc0979ea25912fb9beb1459676c663fc08e5eb85", func := "quoin/quoinlaw18.DiskNil", spec := "diskNil", apart := false, narrowed := true }
def DiskNilUptoSaid : Prop := diskNilUptoRow.holds Try.pinned (OpenSpec.upto diskNilSpec)

/-- 'quoinlaw18.DiskReplays', WHERE WHAT IT READS IS OF BULK AT MOST 1048576: true; the input reads as it did. -/
def diskReplaysUptoRow : OpenClaim := { program := "ytdmpeinbbcjamaa", sum := "916ba2cfacf9091877c1225fdc0979ea25912fb9beb1459676c663fc08e5eb85", func := "quoin/quoinlaw18.DiskReplays", spec := "diskReplays", apart := false, narrowed := true }
def DiskReplaysUptoSaid : Prop := diskReplaysUptoRow.holds Try.pinned (OpenSpec.upto diskReplaysSpec)

/-- 'quoinlaw18.DiskFuses', WHERE WHAT IT READS IS OF BULK AT MOST 1048576: true; the input reads as it did. -/
def diskFusesUptoRow : OpenClaim := { program := "ytdmpeinbbcjamaa", sum := "916ba2cfacf9091877c1225fdc0979ea25912fb9beb1459676c663fc08e5eb85", func := "quoin/quoinlaw18.DiskFuses", spec := "diskFuses", apart := false, narrowed := true }
def DiskFusesUptoSaid : Prop := diskFusesUptoRow.holds Try.pinned (OpenSpec.upto diskFusesSpec)

/-- 'quoinlaw18.DiskAlone', WHERE WHAT IT READS IS OF BULK AT MOST 1048576: true; the input reads as it did. -/
def diskAloneUptoRow : OpenClaim := { program := "ytdmpeinbbcjamaa", sum := "916ba2cfacf9091877c1225fdc0979ea25912fb9beb1459676c663fc08e5eb85", func := "quoin/quoinlaw18.DiskAlone", spec := "diskAlone", apart := false, narrowed := true }
def DiskAloneUptoSaid : Prop := diskAloneUptoRow.holds Try.pinned (OpenSpec.upto diskAloneSpec)

end Rows
end Go.Proofs.Ytdmpeinbbcjamaa
