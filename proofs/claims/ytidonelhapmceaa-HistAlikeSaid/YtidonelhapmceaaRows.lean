/-
  No cell of these rows narrows 'for every input' (looked for: loops, veiled, ifaces, maps, wideKeys, modest, calm, conditions, laid).
  DERIVED. THE GIVEN ROWS OF THIS SEAT. 5 by the template 'for every input the law returns true; each argument reads behind the call as it read before'; 0 by the template 'total and deterministic' (their statements: YtidonelhapmceaaTotals.lean).
  GIVEN WITH THE SEED: the statements are not yours to turn. If you find one false, say at which input.
  Laid BY PROGRAM, IN A SANDBOX (cutbox-rows.mjs): the forced cells as the released guide's own fill.sh prints them over the translation b88ae9cb38a1f8e3… (all of the seat's roots in one cut). By AI agents, Wed Nov 11 2026. No macro, syntax, notation, axiom, sorry.
-/
import Derived.Test.YtidonelhapmceaaChecked
import GoSem.Claim
import GoSem.ClaimJoined
import GoSem.ClaimMapViews
import Derived.JoinedTies
import Derived.KernelRfl
namespace Go.Proofs.Ytidonelhapmceaa
/- THE CELL 'sum', in the pinned program and in every row, IS THE sha256 OF THE DUMP (.gsa) THAT YtidonelhapmceaaProg.lean LOADS. Nothing in Lean hashes anything: it is a label: what it is worth is what the hold of that sum in a sandbox is worth. -/
noncomputable def Try.pinned : Pinned := { name := "ytidonelhapmceaa", sum := "b88ae9cb38a1f8e331308c6fea9a2eb801d71863b654e994a399e75fdf59f4d1", checked := Try.checked }
namespace Rows
def none {H : Type} : Left H := { results := [], args := [] }

/-- 'warrenlaw18.HistNumbers': WHATEVER THE INPUT: true; the input reads as it did. -/
def histNumbersSpec : ChangeSpec := { name := "histNumbers", fn := fun _ => fun
  | [] => { results := [.lit (.bool true)], args := [] }
  | _ => none }
def histNumbersRow : OpenClaim := { program := "ytidonelhapmceaa", sum := "b88ae9cb38a1f8e331308c6fea9a2eb801d71863b654e994a399e75fdf59f4d1", func := "warren/warrenlaw18.HistNumbers", spec := "histNumbers", apart := false }
def HistNumbersSaid : Prop := histNumbersRow.holds Try.pinned (OpenSpec.ofChange histNumbersSpec)

/-- ITS FALSE NEIGHBOUR: 'it returns false'. Refute it at one input. -/
def histNumbersWrong : ChangeSpec := { name := "histNumbers", fn := fun _ => fun
  | [] => { results := [.lit (.bool false)], args := [] }
  | _ => none }
def HistNumbersWrongFalsely : Prop := histNumbersRow.holds Try.pinned (OpenSpec.ofChange histNumbersWrong)

/-- 'warrenlaw18.HistThreads': WHATEVER THE INPUT: true; the input reads as it did. -/
def histThreadsSpec : ChangeSpec := { name := "histThreads", fn := fun _ => fun
  | [d] => { results := [.lit (.bool true)], args := [d] }
  | _ => none }
def histThreadsRow : OpenClaim := { program := "ytidonelhapmceaa", sum := "b88ae9cb38a1f8e331308c6fea9a2eb801d71863b654e994a399e75fdf59f4d1", func := "warren/warrenlaw18.HistThreads", spec := "histThreads", apart := false }
def HistThreadsSaid : Prop := histThreadsRow.holds Try.pinned (OpenSpec.ofChange histThreadsSpec)

/-- ITS FALSE NEIGHBOUR: 'it returns false'. Refute it at one input. -/
def histThreadsWrong : ChangeSpec := { name := "histThreads", fn := fun _ => fun
  | [d] => { results := [.lit (.bool false)], args := [d] }
  | _ => none }
def HistThreadsWrongFalsely : Prop := histThreadsRow.holds Try.pinned (OpenSpec.ofChange histThreadsWrong)

/-- 'warrenlaw18.HistPending': WHATEVER THE INPUT: true; the input reads as it did. -/
def histPendingSpec : ChangeSpec := { name := "histPending", fn := fun _ => fun
  | [d] => { results := [.lit (.bool true)], args := [d] }
  | _ => none }
def histPendingRow : OpenClaim := { program := "ytidonelhapmceaa", sum := "b88ae9cb38a1f8e331308c6fea9a2eb801d71863b654e994a399e75fdf59f4d1", func := "warren/warrenlaw18.HistPending", spec := "histPending", apart := false }
def HistPendingSaid : Prop := histPendingRow.holds Try.pinned (OpenSpec.ofChange histPendingSpec)

/-- ITS FALSE NEIGHBOUR: 'it returns false'. Refute it at one input. -/
def histPendingWrong : ChangeSpec := { name := "histPending", fn := fun _ => fun
  | [d] => { results := [.lit (.bool false)], args := [d] }
  | _ => none }
def HistPendingWrongFalsely : Prop := histPendingRow.holds Try.pinned (OpenSpec.ofChange histPendingWrong)

/-- 'warrenlaw18.HistReads': WHATEVER THE INPUT: true; the input reads as it did. -/
def histReadsSpec : ChangeSpec := { name := "histReads", fn := fun _ => fun
  | [d1, d2, d3] => { results := [.lit (.bool true)], args := [d1, d2, d3] }
  | _ => none }
def histReadsRow : OpenClaim := { program := "ytidonelhapmceaa", sum := "b88ae9cb38a1f8e331308c6fea9a2eb801d71863b654e994a399e75fdf59f4d1", func := "warren/warrenlaw18.HistReads", spec := "histReads", apart := false }
def HistReadsSaid : Prop := histReadsRow.holds Try.pinned (OpenSpec.ofChange histReadsSpec)

/-- ITS FALSE NEIGHBOUR: 'it returns false'. Refute it at one input. -/
def histReadsWrong : ChangeSpec := { name := "histReads", fn := fun _ => fun
  | [d1, d2, d3] => { results := [.lit (.bool false)], args := [d1, d2, d3] }
  | _ => none }
def HistReadsWrongFalsely : Prop := histReadsRow.holds Try.pinned (OpenSpec.ofChange histReadsWrong)

/-- 'warrenlaw18.HistAlike': WHATEVER THE INPUT: true; the input reads as it did. -/
def histAlikeSpec : ChangeSpec := { name := "histAlike", fn := fun _ => fun
  | [d1, d2] => { results := [.lit (.bool true)], args := [d1, d2] }
  | _ => none }
def histAlikeRow : OpenClaim := { program := "ytidonelhapmceaa", sum := "b88ae9cb38a1f8e331308c6fea9a2eb801d71863b654e994a399e75fdf59f4d1", func := "warren/warrenlaw18.HistAlike", spec := "histAlike", apart := false }
def HistAlikeSaid : Prop := histAlikeRow.holds Try.pinned (OpenSpec.ofChange histAlikeSpec)

/-- ITS FALSE NEIGHBOUR: 'it returns false'. Refute it at one input. -/
def histAlikeWrong : ChangeSpec := { name := "histAlike", fn := fun _ => fun
  | [d1, d2] => { results := [.lit (.bool false)], args := [d1, d2] }
  | _ => none }
def HistAlikeWrongFalsely : Prop := histAlikeRow.holds Try.pinned (OpenSpec.ofChange histAlikeWrong)

/- THE SECOND FORM. 'bulk': how many values and letters a reading holds, each counted each time it is reached (what is shared counts as often as it is met; a slice's spare places count too). A statement '..UptoSaid' is the law's where the arguments, and the package variables that the reading takes, are together of bulk at most 1048576: NARROWER than '..Said'. Prove '..Said' where nothing that the law and all that it calls make is longer than what came in: it says more and counts as full. Else prove '..UptoSaid'. A law counts once. -/
mutual
def uptoBulk {H : Type} : DataW H → Nat
  | .lit (.string bytes) => bytes.length + 1
  | .lit _ => 1
  | .nil => 1
  | .ptr d => uptoBulk d + 1
  | .slice elems spare => uptoBulkAll elems + uptoBulkAll spare + 1
  | .agg parts => uptoBulkAll parts + 1
  | .iface _ d => uptoBulk d + 1
  | .map entries => uptoBulkEntries entries + 1
  | .held _ => 1
def uptoBulkAll {H : Type} : List (DataW H) → Nat
  | [] => 0
  | d :: r => uptoBulk d + uptoBulkAll r
def uptoBulkEntries {H : Type} : List (Lit × DataW H) → Nat
  | [] => 0
  | x :: r => uptoBulkEntry x + uptoBulkEntries r
def uptoBulkEntry {H : Type} : Lit × DataW H → Nat
  | (.string bytes, d) => bytes.length + uptoBulk d + 1
  | (_, d) => uptoBulk d + 1
 end
def uptoSmall : (H : Type) → List (DataW H) → Bool := fun _ ds => decide (uptoBulkAll ds ≤ 1048576)
def OpenSpec.upto (s : _root_.Go.ChangeSpec) : _root_.Go.OpenSpec := { _root_.Go.OpenSpec.ofChange s with cond := some uptoSmall }

/-- 'warrenlaw18.HistNumbers', WHERE WHAT IT READS IS OF BULK AT MOST 1048576: true; the input reads as it did. -/
def histNumbersUptoRow : OpenClaim := { program := "ytidonelhapmceaa", sum := "b88ae9cb38a1f8e331308c6fea9a2eb801d71863b654e994a399e75fdf59f4d1", func := "warren/warrenlaw18.HistNumbers", spec := "histNumbers", apart := false, narrowed := true }
def HistNumbersUptoSaid : Prop := histNumbersUptoRow.holds Try.pinned (OpenSpec.upto histNumbersSpec)

/-- 'warrenlaw18.HistThreads', WHERE WHAT IT READS IS OF BULK AT MOST 1048576: true; the input reads as it did. -/
def histThreadsUptoRow : OpenClaim := { program := "ytidonelhapmceaa", sum := "b88ae9cb38a1f8e331308c6fea9a2eb801d71863b654e994a399e75fdf59f4d1", func := "warren/warrenlaw18.HistThreads", spec := "histThreads", apart := false, narrowed := true }
def HistThreadsUptoSaid : Prop := histThreadsUptoRow.holds Try.pinned (OpenSpec.upto histThreadsSpec)

/-- 'warrenlaw18.HistPending', WHERE WHAT IT READS IS OF BULK AT MOST 1048576: true; the input reads as it did. -/
def histPendingUptoRow : OpenClaim := { program := "ytidonelhapmceaa", sum := "b88ae9cb38a1f8e331308c6fea9a2eb801d71863b654e994a399e75fdf59f4d1", func := "warren/warrenlaw18.HistPending", spec := "histPending", apart := false, narrowed := true }
def HistPendingUptoSaid : Prop := histPendingUptoRow.holds Try.pinned (OpenSpec.upto histPendingSpec)

/-- 'warrenlaw18.HistReads', WHERE WHAT IT READS IS OF BULK AT MOST 1048576: true; the input reads as it did. -/
def histReadsUptoRow : OpenClaim := { program := "ytidonelhapmceaa", sum := "b88ae9cb38a1f8e331308c6fea9a2eb801d71863b654e994a399e75fdf59f4d1", func := "warren/warrenlaw18.HistReads", spec := "histReads", apart := false, narrowed := true }
def HistReadsUptoSaid : Prop := histReadsUptoRow.holds Try.pinned (OpenSpec.upto histReadsSpec)

/-- 'warrenlaw18.HistAlike', WHERE WHAT IT READS IS OF BULK AT MOST 1048576: true; the input reads as it did. -/
def histAlikeUptoRow : OpenClaim := { program := "ytidonelhapmceaa", sum := "b88ae9cb38a1f8e331308c6fea9a2eb801d71863b654e994a399e75fdf59f4d1", func := "warren/warrenlaw18.HistAlike", spec := "histAlike", apart := false, narrowed := true }
def HistAlikeUptoSaid : Prop := histAlikeUptoRow.holds Try.pinned (OpenSpec.upto histAlikeSpec)

end Rows
end Go.Proofs.Ytidonelhapmceaa
