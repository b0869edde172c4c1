/-
  No cell of these rows narrows 'for every input' (looked for: loops, veiled, ifaces, maps, wideKeys, modest, calm, conditions, laid).
  DERIVED. THE GIVEN ROWS OF THIS SEAT. 4 by the template 'for every input the law returns true; each argument reads behind the call as it read before'; 0 by the template 'total and deterministic' (their statements: YtlajinihhgfnmaaTotals.lean).
  GIVEN WITH THE SEED: the statements are not yours to turn. If you find one false, say at which input.
  Laid BY PROGRAM, IN A SANDBOX (cutbox-rows.mjs): the forced cells as the released guide's own fill.sh prints them over the translation c7634507860a3ac6… (all of the seat's roots in one cut). By AI agents, Wed Nov 11 2026. No macro, syntax, notation, axiom, sorry.
-/
import Derived.Test.YtlajinihhgfnmaaChecked
import GoSem.Claim
import GoSem.ClaimJoined
import GoSem.ClaimMapViews
import Derived.JoinedTies
import Derived.KernelRfl
namespace Go.Proofs.Ytlajinihhgfnmaa
/- THE CELL 'sum', in the pinned program and in every row, IS THE sha256 OF THE DUMP (.gsa) THAT YtlajinihhgfnmaaProg.lean LOADS. Nothing in Lean hashes anything: it is a label: what it is worth is what the hold of that sum in a sandbox is worth. -/
noncomputable def Try.pinned : Pinned := { name := "ytlajinihhgfnmaa", sum := "c7634507860a3ac67c7dd18be4d102acfba2be44c418e7a06deb34d0e2cf586f", checked := Try.checked }
namespace Rows
def none {H : Type} : Left H := { results := [], args := [] }

/-- 'warrenlaw8.CredParts': WHATEVER THE INPUT: true; the input reads as it did. -/
def credPartsSpec : ChangeSpec := { name := "credParts", fn := fun _ => fun
  | [d1, d2, d3, d4] => { results := [.lit (.bool true)], args := [d1, d2, d3, d4] }
  | _ => none }
def credPartsRow : OpenClaim := { program := "ytlajinihhgfnmaa", sum := "c7634507860a3ac67c7dd18be4d102acfba2be44c418e7a06deb34d0e2cf586f", func := "warren/warrenlaw8.CredParts", spec := "credParts", apart := false }
def CredPartsSaid : Prop := credPartsRow.holds Try.pinned (OpenSpec.ofChange credPartsSpec)

/-- ITS FALSE NEIGHBOUR: 'it returns false'. Refute it at one input. -/
def credPartsWrong : ChangeSpec := { name := "credParts", fn := fun _ => fun
  | [d1, d2, d3, d4] => { results := [.lit (.bool false)], args := [d1, d2, d3, d4] }
  | _ => none }
def CredPartsWrongFalsely : Prop := credPartsRow.holds Try.pinned (OpenSpec.ofChange credPartsWrong)

/-- 'warrenlaw8.CredBits': WHATEVER THE INPUT: true; the input reads as it did. -/
def credBitsSpec : ChangeSpec := { name := "credBits", fn := fun _ => fun
  | [d1, d2, d3, d4] => { results := [.lit (.bool true)], args := [d1, d2, d3, d4] }
  | _ => none }
def credBitsRow : OpenClaim := { program := "ytlajinihhgfnmaa", sum := "c7634507860a3ac67c7dd18be4d102acfba2be44c418e7a06deb34d0e2cf586f", func := "warren/warrenlaw8.CredBits", spec := "credBits", apart := false }
def CredBitsSaid : Prop := credBitsRow.holds Try.pinned (OpenSpec.ofChange credBitsSpec)

/-- ITS FALSE NEIGHBOUR: 'it returns false'. Refute it at one input. -/
def credBitsWrong : ChangeSpec := { name := "credBits", fn := fun _ => fun
  | [d1, d2, d3, d4] => { results := [.lit (.bool false)], args := [d1, d2, d3, d4] }
  | _ => none }
def CredBitsWrongFalsely : Prop := credBitsRow.holds Try.pinned (OpenSpec.ofChange credBitsWrong)

/-- 'warrenlaw8.CredNumbers': WHATEVER THE INPUT: true; the input reads as it did. -/
def credNumbersSpec : ChangeSpec := { name := "credNumbers", fn := fun _ => fun
  | [] => { results := [.lit (.bool true)], args := [] }
  | _ => none }
def credNumbersRow : OpenClaim := { program := "ytlajinihhgfnmaa", sum := "c7634507860a3ac67c7dd18be4d102acfba2be44c418e7a06deb34d0e2cf586f", func := "warren/warrenlaw8.CredNumbers", spec := "credNumbers", apart := false }
def CredNumbersSaid : Prop := credNumbersRow.holds Try.pinned (OpenSpec.ofChange credNumbersSpec)

/-- ITS FALSE NEIGHBOUR: 'it returns false'. Refute it at one input. -/
def credNumbersWrong : ChangeSpec := { name := "credNumbers", fn := fun _ => fun
  | [] => { results := [.lit (.bool false)], args := [] }
  | _ => none }
def CredNumbersWrongFalsely : Prop := credNumbersRow.holds Try.pinned (OpenSpec.ofChange credNumbersWrong)

/-- 'warrenlaw8.CredTells': WHATEVER THE INPUT: true; the input reads as it did. -/
def credTellsSpec : ChangeSpec := { name := "credTells", fn := fun _ => fun
  | [d1, d2, d3, d4] => { results := [.lit (.bool true)], args := [d1, d2, d3, d4] }
  | _ => none }
def credTellsRow : OpenClaim := { program := "ytlajinihhgfnmaa", sum := "c7634507860a3ac67c7dd18be4d102acfba2be44c418e7a06deb34d0e2cf586f", func := "warren/warrenlaw8.CredTells", spec := "credTells", apart := false }
def CredTellsSaid : Prop := credTellsRow.holds Try.pinned (OpenSpec.ofChange credTellsSpec)

/-- ITS FALSE NEIGHBOUR: 'it returns false'. Refute it at one input. -/
def credTellsWrong : ChangeSpec := { name := "credTells", fn := fun _ => fun
  | [d1, d2, d3, d4] => { results := [.lit (.bool false)], args := [d1, d2, d3, d4] }
  | _ => none }
def CredTellsWrongFalsely : Prop := credTellsRow.holds Try.pinned (OpenSpec.ofChange credTellsWrong)

/- THE SECOND FORM. 'bulk': how many values and letters a reading holds, each counted each time it is reached (what is shared counts as often as it is met; a slice's spare places count too). A statement '..UptoSaid' is the law's where the arguments, and the package variables that the reading takes, are together of bulk at most 1048576: NARROWER than '..Said'. Prove '..Said' where nothing that the law and all that it calls make is longer than what came in: it says more and counts as full. Else prove '..UptoSaid'. A law counts once. -/
mutual
def uptoBulk {H : Type} : DataW H → Nat
  | .lit (.string bytes) => bytes.length + 1
  | .lit _ => 1
  | .nil => 1
  | .ptr d => uptoBulk d + 1
  | .slice elems spare => uptoBulkAll elems + uptoBulkAll spare + 1
  | .agg parts => uptoBulkAll parts + 1
  | .iface _ d => uptoBulk d + 1
  | .map entries => uptoBulkEntries entries + 1
  | .held _ => 1
def uptoBulkAll {H : Type} : List (DataW H) → Nat
  | [] => 0
  | d :: r => uptoBulk d + uptoBulkAll r
def uptoBulkEntries {H : Type} : List (Lit × DataW H) → Nat
  | [] => 0
  | x :: r => uptoBulkEntry x + uptoBulkEntries r
def uptoBulkEntry {H : Type} : Lit × DataW H → Nat
  | (.string bytes, d) => bytes.length + uptoBulk d + 1
  | (_, d) => uptoBulk d + 1
 end
def uptoSmall : (H : Type) → List (DataW H) → Bool := fun _ ds => decide (uptoBulkAll ds ≤ 1048576)
def OpenSpec.upto (s : _root_.Go.ChangeSpec) : _root_.Go.OpenSpec := { _root_.Go.OpenSpec.ofChange s with cond := some uptoSmall }

/-- 'warrenlaw8.CredParts', WHERE WHAT IT READS IS OF BULK AT MOST 1048576: true; the input reads as it did. -/
def credPartsUptoRow : OpenClaim := { program := "ytlajinihhgfnmaa", sum := "c7634507860a3ac67c7dd18be4d102acfba2be44c418e7a06deb34d0e2cf586f", func := "warren/warrenlaw8.CredParts", spec := "credParts", apart := false, narrowed := true }
def CredPartsUptoSaid : Prop := credPartsUptoRow.holds Try.pinned (OpenSpec.upto credPartsSpec)

/-- 'warrenlaw8.CredBits', WHERE WHAT IT READS IS OF BULK AT MOST 1048576: true; the input reads as it did. -/
def credBitsUptoRow : OpenClaim := { program := "ytlajinihhgfnmaa", sum := "c7634507860a3ac67c7dd18be4d102acfba2be44c418e7a06deb34d0e2cf586f", func := "warren/warrenlaw8.CredBits", spec := "credBits", apart := false, narrowed := true }
def CredBitsUptoSaid : Prop := credBitsUptoRow.holds Try.pinned (OpenSpec.upto credBitsSpec)

/-- 'warrenlaw8.CredNumbers', WHERE WHAT IT READS IS OF BULK AT MOST 1048576: true; the input reads as it did. -/
def credNumbersUptoRow : OpenClaim := { program := "ytlajinihhgfnmaa", sum := "c7634507860a3ac67c7dd18be4d102acfba2be44c418e7a06deb34d0e2cf586f", func := "warren/warrenlaw8.CredNumbers", spec := "credNumbers", apart := false, narrowed := true }
def CredNumbersUptoSaid : Prop := credNumbersUptoRow.holds Try.pinned (OpenSpec.upto credNumbersSpec)

/-- 'warrenlaw8.CredTells', WHERE WHAT IT READS IS OF BULK AT MOST 1048576: true; the input reads as it did. -/
def credTellsUptoRow : OpenClaim := { program := "ytlajinihhgfnmaa", sum := "c7634507860a3ac67c7dd18be4d102acfba2be44c418e7a06deb34d0e2cf586f", func := "warren/warrenlaw8.CredTells", spec := "credTells", apart := false, narrowed := true }
def CredTellsUptoSaid : Prop := credTellsUptoRow.holds Try.pinned (OpenSpec.upto credTellsSpec)

end Rows
end Go.Proofs.Ytlajinihhgfnmaa
