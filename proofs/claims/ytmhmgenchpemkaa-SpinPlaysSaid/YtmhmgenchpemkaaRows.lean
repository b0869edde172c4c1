/-
  No cell of these rows narrows 'for every input' (looked for: loops, veiled, ifaces, maps, wideKeys, modest, calm, conditions, laid).
  DERIVED. THE GIVEN ROWS OF THIS SEAT. 6 by the template 'for every input the law returns true; each argument reads behind the call as it read before'; 0 by the template 'total and deterministic' (their statements: YtmhmgenchpemkaaTotals.lean).
  GIVEN WITH THE SEED: the statements are not yours to turn. If you find one false, say at which input.
  Laid BY PROGRAM, IN A SANDBOX (cutbox-rows.mjs): the forced cells as the released guide's own fill.sh prints them over the translation 2c3f70dd593ab52f… (all of the seat's roots in one cut). By AI agents, Wed Nov 11 2026. No macro, syntax, notation, axiom, sorry.
-/
import Derived.Test.YtmhmgenchpemkaaChecked
import GoSem.Claim
import GoSem.ClaimJoined
import GoSem.ClaimMapViews
import Derived.JoinedTies
import Derived.KernelRfl
namespace Go.Proofs.Ytmhmgenchpemkaa
/- THE CELL 'sum', in the pinned program and in every row, IS THE sha256 OF THE DUMP (.gsa) THAT YtmhmgenchpemkaaProg.lean LOADS. Nothing in Lean hashes anything: it is a label: what it is worth is what the hold of that sum in a sandbox is worth. -/
noncomputable def Try.pinned : Pinned := { name := "ytmhmgenchpemkaa", sum := "2c3f70dd593ab52f42ceb9482e011beb79ac358321bc4f51014a842f24c733e6", checked := Try.checked }
namespace Rows
def none {H : Type} : Left H := { results := [], args := [] }

/-- 'warrenlaw2.SpinFair': WHATEVER THE INPUT: true; the input reads as it did. -/
def spinFairSpec : ChangeSpec := { name := "spinFair", fn := fun _ => fun
  | [d1, d2, d3] => { results := [.lit (.bool true)], args := [d1, d2, d3] }
  | _ => none }
def spinFairRow : OpenClaim := { program := "ytmhmgenchpemkaa", sum := "2c3f70dd593ab52f42ceb9482e011beb79ac358321bc4f51014a842f24c733e6", func := "warren/warrenlaw2.SpinFair", spec := "spinFair", unfollowed := true, recurses := true, apart := false }
def SpinFairSaid : Prop := spinFairRow.holds Try.pinned (OpenSpec.ofChange spinFairSpec)

/-- ITS FALSE NEIGHBOUR: 'it returns false'. Refute it at one input. -/
def spinFairWrong : ChangeSpec := { name := "spinFair", fn := fun _ => fun
  | [d1, d2, d3] => { results := [.lit (.bool false)], args := [d1, d2, d3] }
  | _ => none }
def SpinFairWrongFalsely : Prop := spinFairRow.holds Try.pinned (OpenSpec.ofChange spinFairWrong)

/-- 'warrenlaw2.SpinPlays': WHATEVER THE INPUT: true; the input reads as it did. -/
def spinPlaysSpec : ChangeSpec := { name := "spinPlays", fn := fun _ => fun
  | [d1, d2, d3] => { results := [.lit (.bool true)], args := [d1, d2, d3] }
  | _ => none }
def spinPlaysRow : OpenClaim := { program := "ytmhmgenchpemkaa", sum := "2c3f70dd593ab52f42ceb9482e011beb79ac358321bc4f51014a842f24c733e6", func := "warren/warrenlaw2.SpinPlays", spec := "spinPlays", unfollowed := true, recurses := true, apart := false }
def SpinPlaysSaid : Prop := spinPlaysRow.holds Try.pinned (OpenSpec.ofChange spinPlaysSpec)

/-- ITS FALSE NEIGHBOUR: 'it returns false'. Refute it at one input. -/
def spinPlaysWrong : ChangeSpec := { name := "spinPlays", fn := fun _ => fun
  | [d1, d2, d3] => { results := [.lit (.bool false)], args := [d1, d2, d3] }
  | _ => none }
def SpinPlaysWrongFalsely : Prop := spinPlaysRow.holds Try.pinned (OpenSpec.ofChange spinPlaysWrong)

/-- 'warrenlaw2.SpinCounts': WHATEVER THE INPUT: true; the input reads as it did. -/
def spinCountsSpec : ChangeSpec := { name := "spinCounts", fn := fun _ => fun
  | [d1, d2, d3, d4] => { results := [.lit (.bool true)], args := [d1, d2, d3, d4] }
  | _ => none }
def spinCountsRow : OpenClaim := { program := "ytmhmgenchpemkaa", sum := "2c3f70dd593ab52f42ceb9482e011beb79ac358321bc4f51014a842f24c733e6", func := "warren/warrenlaw2.SpinCounts", spec := "spinCounts", unfollowed := true, recurses := true, apart := false }
def SpinCountsSaid : Prop := spinCountsRow.holds Try.pinned (OpenSpec.ofChange spinCountsSpec)

/-- ITS FALSE NEIGHBOUR: 'it returns false'. Refute it at one input. -/
def spinCountsWrong : ChangeSpec := { name := "spinCounts", fn := fun _ => fun
  | [d1, d2, d3, d4] => { results := [.lit (.bool false)], args := [d1, d2, d3, d4] }
  | _ => none }
def SpinCountsWrongFalsely : Prop := spinCountsRow.holds Try.pinned (OpenSpec.ofChange spinCountsWrong)

/-- 'warrenlaw2.SpinNumbers': WHATEVER THE INPUT: true; the input reads as it did. -/
def spinNumbersSpec : ChangeSpec := { name := "spinNumbers", fn := fun _ => fun
  | [] => { results := [.lit (.bool true)], args := [] }
  | _ => none }
def spinNumbersRow : OpenClaim := { program := "ytmhmgenchpemkaa", sum := "2c3f70dd593ab52f42ceb9482e011beb79ac358321bc4f51014a842f24c733e6", func := "warren/warrenlaw2.SpinNumbers", spec := "spinNumbers", unfollowed := true, recurses := true, apart := false }
def SpinNumbersSaid : Prop := spinNumbersRow.holds Try.pinned (OpenSpec.ofChange spinNumbersSpec)

/-- ITS FALSE NEIGHBOUR: 'it returns false'. Refute it at one input. -/
def spinNumbersWrong : ChangeSpec := { name := "spinNumbers", fn := fun _ => fun
  | [] => { results := [.lit (.bool false)], args := [] }
  | _ => none }
def SpinNumbersWrongFalsely : Prop := spinNumbersRow.holds Try.pinned (OpenSpec.ofChange spinNumbersWrong)

/-- 'warrenlaw2.SpinLocks': WHATEVER THE INPUT: true; the input reads as it did. -/
def spinLocksSpec : ChangeSpec := { name := "spinLocks", fn := fun _ => fun
  | [d1, d2, d3, d4] => { results := [.lit (.bool true)], args := [d1, d2, d3, d4] }
  | _ => none }
def spinLocksRow : OpenClaim := { program := "ytmhmgenchpemkaa", sum := "2c3f70dd593ab52f42ceb9482e011beb79ac358321bc4f51014a842f24c733e6", func := "warren/warrenlaw2.SpinLocks", spec := "spinLocks", unfollowed := true, recurses := true, apart := false }
def SpinLocksSaid : Prop := spinLocksRow.holds Try.pinned (OpenSpec.ofChange spinLocksSpec)

/-- ITS FALSE NEIGHBOUR: 'it returns false'. Refute it at one input. -/
def spinLocksWrong : ChangeSpec := { name := "spinLocks", fn := fun _ => fun
  | [d1, d2, d3, d4] => { results := [.lit (.bool false)], args := [d1, d2, d3, d4] }
  | _ => none }
def SpinLocksWrongFalsely : Prop := spinLocksRow.holds Try.pinned (OpenSpec.ofChange spinLocksWrong)

/-- 'warrenlaw2.SpinPairs': WHATEVER THE INPUT: true; the input reads as it did. -/
def spinPairsSpec : ChangeSpec := { name := "spinPairs", fn := fun _ => fun
  | [d1, d2, d3, d4] => { results := [.lit (.bool true)], args := [d1, d2, d3, d4] }
  | _ => none }
def spinPairsRow : OpenClaim := { program := "ytmhmgenchpemkaa", sum := "2c3f70dd593ab52f42ceb9482e011beb79ac358321bc4f51014a842f24c733e6", func := "warren/warrenlaw2.SpinPairs", spec := "spinPairs", unfollowed := true, recurses := true, apart := false }
def SpinPairsSaid : Prop := spinPairsRow.holds Try.pinned (OpenSpec.ofChange spinPairsSpec)

/-- ITS FALSE NEIGHBOUR: 'it returns false'. Refute it at one input. -/
def spinPairsWrong : ChangeSpec := { name := "spinPairs", fn := fun _ => fun
  | [d1, d2, d3, d4] => { results := [.lit (.bool false)], args := [d1, d2, d3, d4] }
  | _ => none }
def SpinPairsWrongFalsely : Prop := spinPairsRow.holds Try.pinned (OpenSpec.ofChange spinPairsWrong)

/- THE SECOND FORM. 'bulk': how many values and letters a reading holds, each counted each time it is reached (what is shared counts as often as it is met; a slice's spare places count too). A statement '..UptoSaid' is the law's where the arguments, and the package variables that the reading takes, are together of bulk at most 1048576: NARROWER than '..Said'. Prove '..Said' where nothing that the law and all that it calls make is longer than what came in: it says more and counts as full. Else prove '..UptoSaid'. A law counts once. -/
mutual
def uptoBulk {H : Type} : DataW H → Nat
  | .lit (.string bytes) => bytes.length + 1
  | .lit _ => 1
  | .nil => 1
  | .ptr d => uptoBulk d + 1
  | .slice elems spare => uptoBulkAll elems + uptoBulkAll spare + 1
  | .agg parts => uptoBulkAll parts + 1
  | .iface _ d => uptoBulk d + 1
  | .map entries => uptoBulkEntries entries + 1
  | .held _ => 1
def uptoBulkAll {H : Type} : List (DataW H) → Nat
  | [] => 0
  | d :: r => uptoBulk d + uptoBulkAll r
def uptoBulkEntries {H : Type} : List (Lit × DataW H) → Nat
  | [] => 0
  | x :: r => uptoBulkEntry x + uptoBulkEntries r
def uptoBulkEntry {H : Type} : Lit × DataW H → Nat
  | (.string bytes, d) => bytes.length + uptoBulk d + 1
  | (_, d) => uptoBulk d + 1
 end
def uptoSmall : (H : Type) → List (DataW H) → Bool := fun _ ds => decide (uptoBulkAll ds ≤ 1048576)
def OpenSpec.upto (s : _root_.Go.ChangeSpec) : _root_.Go.OpenSpec := { _root_.Go.OpenSpec.ofChange s with cond := some uptoSmall }

/-- 'warrenlaw2.SpinFair', WHERE WHAT IT READS IS OF BULK AT MOST 1048576: true; the input reads as it did. -/
def spinFairUptoRow : OpenClaim := { program := "ytmhmgenchpemkaa", sum := "2c3f70dd593ab52f42ceb9482e011beb79ac358321bc4f51014a842f24c733e6", func := "warren/warrenlaw2.SpinFair", spec := "spinFair", unfollowed := true, recurses := true, apart := false, narrowed := true }
def SpinFairUptoSaid : Prop := spinFairUptoRow.holds Try.pinned (OpenSpec.upto spinFairSpec)

/-- 'warrenlaw2.SpinPlays', WHERE WHAT IT READS IS OF BULK AT MOST 1048576: true; the input reads as it did. -/
def spinPlaysUptoRow : OpenClaim := { program := "ytmhmgenchpemkaa", sum := "2c3f70dd593ab52f42ceb9482e011beb79ac358321bc4f51014a842f24c733e6", func := "warren/warrenlaw2.SpinPlays", spec := "spinPlays", unfollowed := true, recurses := true, apart := false, narrowed := true }
def SpinPlaysUptoSaid : Prop := spinPlaysUptoRow.holds Try.pinned (OpenSpec.upto spinPlaysSpec)

/-- 'warrenlaw2.SpinCounts', WHERE WHAT IT READS IS OF BULK AT MOST 1048576: true; the input reads as it did. -/
def spinCountsUptoRow : OpenClaim := { program := "ytmhmgenchpemkaa", sum := "2c3f70dd593ab52f42ceb9482e011beb79ac358321bc4f51014a842f24c733e6", func := "warren/warrenlaw2.SpinCounts", spec := "spinCounts", unfollowed := true, recurses := true, apart := false, narrowed := true }
def SpinCountsUptoSaid : Prop := spinCountsUptoRow.holds Try.pinned (OpenSpec.upto spinCountsSpec)

/-- 'warrenlaw2.SpinNumbers', WHERE WHAT IT READS IS OF BULK AT MOST 1048576: true; the input reads as it did. -/
def spinNumbersUptoRow : OpenClaim := { program := "ytmhmgenchpemkaa", sum := "2c3f70dd593ab52f42ceb9482e011beb79ac358321bc4f51014a842f24c733e6", func := "warren/warrenlaw2.SpinNumbers", spec := "spinNumbers", unfollowed := true, recurses := true, apart := false, narrowed := true }
def SpinNumbersUptoSaid : Prop := spinNumbersUptoRow.holds Try.pinned (OpenSpec.upto spinNumbersSpec)

/-- 'warrenlaw2.SpinLocks', WHERE WHAT IT READS IS OF BULK AT MOST 1048576: true; the input reads as it did. -/
def spinLocksUptoRow : OpenClaim := { program := "ytmhmgenchpemkaa", sum := "2c3f70dd593ab52f42ceb9482e011beb79ac358321bc4f51014a842f24c733e6", func := "warren/warrenlaw2.SpinLocks", spec := "spinLocks", unfollowed := true, recurses := true, apart := false, narrowed := true }
def SpinLocksUptoSaid : Prop := spinLocksUptoRow.holds Try.pinned (OpenSpec.upto spinLocksSpec)

/-- 'warrenlaw2.SpinPairs', WHERE WHAT IT READS IS OF BULK AT MOST 1048576: true; the input reads as it did. -/
def spinPairsUptoRow : OpenClaim := { program := "ytmhmgenchpemkaa", sum := "2c3f70dd593ab52f42ceb9482e011beb79ac358321bc4f51014a842f24c733e6", func := "warren/warrenlaw2.SpinPairs", spec := "spinPairs", unfollowed := true, recurses := true, apart := false, narrowed := true }
def SpinPairsUptoSaid : Prop := spinPairsUptoRow.holds Try.pinned (OpenSpec.upto spinPairsSpec)

end Rows
end Go.Proofs.Ytmhmgenchpemkaa
