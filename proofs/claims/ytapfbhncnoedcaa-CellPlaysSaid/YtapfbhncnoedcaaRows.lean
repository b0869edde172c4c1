/-
  No cell of these rows narrows 'for every input' (looked for: loops, veiled, ifaces, maps, wideKeys, modest, calm, conditions, laid).
  DERIVED. THE GIVEN ROWS OF THIS SEAT. 5 by the template 'for every input the law returns true; each argument reads behind the call as it read before'; 0 by the template 'total and deterministic' (their statements: YtapfbhncnoedcaaTotals.lean).
  GIVEN WITH THE SEED: the statements are not yours to turn. If you find one false, say at which input.
  Laid BY PROGRAM, IN A SANDBOX (cutbox-rows.mjs): the forced cells as the released guide's own fill.sh prints them over the translation 5f71115011c51f4b… (all of the seat's roots in one cut). By AI agents, Wed Nov 11 2026. No macro, syntax, notation, axiom, sorry.
-/
import Derived.Test.YtapfbhncnoedcaaChecked
import GoSem.Claim
import GoSem.ClaimJoined
import GoSem.ClaimMapViews
import Derived.JoinedTies
import Derived.KernelRfl
namespace Go.Proofs.Ytapfbhncnoedcaa
/- THE CELL 'sum', in the pinned program and in every row, IS THE sha256 OF THE DUMP (.gsa) THAT YtapfbhncnoedcaaProg.lean LOADS. Nothing in Lean hashes anything: it is a label: what it is worth is what the hold of that sum in a sandbox is worth. -/
noncomputable def Try.pinned : Pinned := { name := "ytapfbhncnoedcaa", sum := "5f71115011c51f4b86a56b9156bfe6f87161490b32098ddaef43de4e8d7f344a", checked := Try.checked }
namespace Rows
def none {H : Type} : Left H := { results := [], args := [] }

/-- 'warrenlaw1.CellSwaps': WHATEVER THE INPUT: true; the input reads as it did. -/
def cellSwapsSpec : ChangeSpec := { name := "cellSwaps", fn := fun _ => fun
  | [d1, d2] => { results := [.lit (.bool true)], args := [d1, d2] }
  | _ => none }
def cellSwapsRow : OpenClaim := { program := "ytapfbhncnoedcaa", sum := "5f71115011c51f4b86a56b9156bfe6f87161490b32098ddaef43de4e8d7f344a", func := "warren/warrenlaw1.CellSwaps", spec := "cellSwaps", apart := false }
def CellSwapsSaid : Prop := cellSwapsRow.holds Try.pinned (OpenSpec.ofChange cellSwapsSpec)

/-- ITS FALSE NEIGHBOUR: 'it returns false'. Refute it at one input. -/
def cellSwapsWrong : ChangeSpec := { name := "cellSwaps", fn := fun _ => fun
  | [d1, d2] => { results := [.lit (.bool false)], args := [d1, d2] }
  | _ => none }
def CellSwapsWrongFalsely : Prop := cellSwapsRow.holds Try.pinned (OpenSpec.ofChange cellSwapsWrong)

/-- 'warrenlaw1.CellWords': WHATEVER THE INPUT: true; the input reads as it did. -/
def cellWordsSpec : ChangeSpec := { name := "cellWords", fn := fun _ => fun
  | [d] => { results := [.lit (.bool true)], args := [d] }
  | _ => none }
def cellWordsRow : OpenClaim := { program := "ytapfbhncnoedcaa", sum := "5f71115011c51f4b86a56b9156bfe6f87161490b32098ddaef43de4e8d7f344a", func := "warren/warrenlaw1.CellWords", spec := "cellWords", unfollowed := true, recurses := true, apart := false }
def CellWordsSaid : Prop := cellWordsRow.holds Try.pinned (OpenSpec.ofChange cellWordsSpec)

/-- ITS FALSE NEIGHBOUR: 'it returns false'. Refute it at one input. -/
def cellWordsWrong : ChangeSpec := { name := "cellWords", fn := fun _ => fun
  | [d] => { results := [.lit (.bool false)], args := [d] }
  | _ => none }
def CellWordsWrongFalsely : Prop := cellWordsRow.holds Try.pinned (OpenSpec.ofChange cellWordsWrong)

/-- 'warrenlaw1.CellKept': WHATEVER THE INPUT: true; the input reads as it did. -/
def cellKeptSpec : ChangeSpec := { name := "cellKept", fn := fun _ => fun
  | [d] => { results := [.lit (.bool true)], args := [d] }
  | _ => none }
def cellKeptRow : OpenClaim := { program := "ytapfbhncnoedcaa", sum := "5f71115011c51f4b86a56b9156bfe6f87161490b32098ddaef43de4e8d7f344a", func := "warren/warrenlaw1.CellKept", spec := "cellKept", unfollowed := true, recurses := true, apart := false }
def CellKeptSaid : Prop := cellKeptRow.holds Try.pinned (OpenSpec.ofChange cellKeptSpec)

/-- ITS FALSE NEIGHBOUR: 'it returns false'. Refute it at one input. -/
def cellKeptWrong : ChangeSpec := { name := "cellKept", fn := fun _ => fun
  | [d] => { results := [.lit (.bool false)], args := [d] }
  | _ => none }
def CellKeptWrongFalsely : Prop := cellKeptRow.holds Try.pinned (OpenSpec.ofChange cellKeptWrong)

/-- 'warrenlaw1.CellNumbers': WHATEVER THE INPUT: true; the input reads as it did. -/
def cellNumbersSpec : ChangeSpec := { name := "cellNumbers", fn := fun _ => fun
  | [] => { results := [.lit (.bool true)], args := [] }
  | _ => none }
def cellNumbersRow : OpenClaim := { program := "ytapfbhncnoedcaa", sum := "5f71115011c51f4b86a56b9156bfe6f87161490b32098ddaef43de4e8d7f344a", func := "warren/warrenlaw1.CellNumbers", spec := "cellNumbers", unfollowed := true, recurses := true, apart := false }
def CellNumbersSaid : Prop := cellNumbersRow.holds Try.pinned (OpenSpec.ofChange cellNumbersSpec)

/-- ITS FALSE NEIGHBOUR: 'it returns false'. Refute it at one input. -/
def cellNumbersWrong : ChangeSpec := { name := "cellNumbers", fn := fun _ => fun
  | [] => { results := [.lit (.bool false)], args := [] }
  | _ => none }
def CellNumbersWrongFalsely : Prop := cellNumbersRow.holds Try.pinned (OpenSpec.ofChange cellNumbersWrong)

/-- 'warrenlaw1.CellPlays': WHATEVER THE INPUT: true; the input reads as it did. -/
def cellPlaysSpec : ChangeSpec := { name := "cellPlays", fn := fun _ => fun
  | [d1, d2] => { results := [.lit (.bool true)], args := [d1, d2] }
  | _ => none }
def cellPlaysRow : OpenClaim := { program := "ytapfbhncnoedcaa", sum := "5f71115011c51f4b86a56b9156bfe6f87161490b32098ddaef43de4e8d7f344a", func := "warren/warrenlaw1.CellPlays", spec := "cellPlays", unfollowed := true, recurses := true, apart := false }
def CellPlaysSaid : Prop := cellPlaysRow.holds Try.pinned (OpenSpec.ofChange cellPlaysSpec)

/-- ITS FALSE NEIGHBOUR: 'it returns false'. Refute it at one input. -/
def cellPlaysWrong : ChangeSpec := { name := "cellPlays", fn := fun _ => fun
  | [d1, d2] => { results := [.lit (.bool false)], args := [d1, d2] }
  | _ => none }
def CellPlaysWrongFalsely : Prop := cellPlaysRow.holds Try.pinned (OpenSpec.ofChange cellPlaysWrong)

/- THE SECOND FORM. 'bulk': how many values and letters a reading holds, each counted each time it is reached (what is shared counts as often as it is met; a slice's spare places count too). A statement '..UptoSaid' is the law's where the arguments, and the package variables that the reading takes, are together of bulk at most 1048576: NARROWER than '..Said'. Prove '..Said' where nothing that the law and all that it calls make is longer than what came in: it says more and counts as full. Else prove '..UptoSaid'. A law counts once. -/
mutual
def uptoBulk {H : Type} : DataW H → Nat
  | .lit (.string bytes) => bytes.length + 1
  | .lit _ => 1
  | .nil => 1
  | .ptr d => uptoBulk d + 1
  | .slice elems spare => uptoBulkAll elems + uptoBulkAll spare + 1
  | .agg parts => uptoBulkAll parts + 1
  | .iface _ d => uptoBulk d + 1
  | .map entries => uptoBulkEntries entries + 1
  | .held _ => 1
def uptoBulkAll {H : Type} : List (DataW H) → Nat
  | [] => 0
  | d :: r => uptoBulk d + uptoBulkAll r
def uptoBulkEntries {H : Type} : List (Lit × DataW H) → Nat
  | [] => 0
  | x :: r => uptoBulkEntry x + uptoBulkEntries r
def uptoBulkEntry {H : Type} : Lit × DataW H → Nat
  | (.string bytes, d) => bytes.length + uptoBulk d + 1
  | (_, d) => uptoBulk d + 1
 end
def uptoSmall : (H : Type) → List (DataW H) → Bool := fun _ ds => decide (uptoBulkAll ds ≤ 1048576)
def OpenSpec.upto (s : _root_.Go.ChangeSpec) : _root_.Go.OpenSpec := { _root_.Go.OpenSpec.ofChange s with cond := some uptoSmall }

/-- 'warrenlaw1.CellSwaps', WHERE WHAT IT READS IS OF BULK AT MOST 1048576: true; the input reads as it did. -/
def cellSwapsUptoRow : OpenClaim := { program := "ytapfbhncnoedcaa", sum := "5f71115011c51f4b86a56b9156bfe6f87161490b32098ddaef43de4e8d7f344a", func := "warren/warrenlaw1.CellSwaps", spec := "cellSwaps", apart := false, narrowed := true }
def CellSwapsUptoSaid : Prop := cellSwapsUptoRow.holds Try.pinned (OpenSpec.upto cellSwapsSpec)

/-- 'warrenlaw1.CellWords', WHERE WHAT IT READS IS OF BULK AT MOST 1048576: true; the input reads as it did. -/
def cellWordsUptoRow : OpenClaim := { program := "ytapfbhncnoedcaa", sum := "5f71115011c51f4b86a56b9156bfe6f87161490b32098ddaef43de4e8d7f344a", func := "warren/warrenlaw1.CellWords", spec := "cellWords", unfollowed := true, recurses := true, apart := false, narrowed := true }
def CellWordsUptoSaid : Prop := cellWordsUptoRow.holds Try.pinned (OpenSpec.upto cellWordsSpec)

/-- 'warrenlaw1.CellKept', WHERE WHAT IT READS IS OF BULK AT MOST 1048576: true; the input reads as it did. -/
def cellKeptUptoRow : OpenClaim := { program := "ytapfbhncnoedcaa", sum := "5f71115011c51f4b86a56b9156bfe6f87161490b32098ddaef43de4e8d7f344a", func := "warren/warrenlaw1.CellKept", spec := "cellKept", unfollowed := true, recurses := true, apart := false, narrowed := true }
def CellKeptUptoSaid : Prop := cellKeptUptoRow.holds Try.pinned (OpenSpec.upto cellKeptSpec)

/-- 'warrenlaw1.CellNumbers', WHERE WHAT IT READS IS OF BULK AT MOST 1048576: true; the input reads as it did. -/
def cellNumbersUptoRow : OpenClaim := { program := "ytapfbhncnoedcaa", sum := "5f71115011c51f4b86a56b9156bfe6f87161490b32098ddaef43de4e8d7f344a", func := "warren/warrenlaw1.CellNumbers", spec := "cellNumbers", unfollowed := true, recurses := true, apart := false, narrowed := true }
def CellNumbersUptoSaid : Prop := cellNumbersUptoRow.holds Try.pinned (OpenSpec.upto cellNumbersSpec)

/-- 'warrenlaw1.CellPlays', WHERE WHAT IT READS IS OF BULK AT MOST 1048576: true; the input reads as it did. -/
def cellPlaysUptoRow : OpenClaim := { program := "ytapfbhncnoedcaa", sum := "5f71115011c51f4b86a56b9156bfe6f87161490b32098ddaef43de4e8d7f344a", func := "warren/warrenlaw1.CellPlays", spec := "cellPlays", unfollowed := true, recurses := true, apart := false, narrowed := true }
def CellPlaysUptoSaid : Prop := cellPlaysUptoRow.holds Try.pinned (OpenSpec.upto cellPlaysSpec)

end Rows
end Go.Proofs.Ytapfbhncnoedcaa
