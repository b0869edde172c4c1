/-
  No cell of these rows narrows 'for every input' (looked for: loops, veiled, ifaces, maps, wideKeys, modest, calm, conditions, laid).
  DERIVED. THE GIVEN ROWS OF THIS SEAT. 5 by the template 'for every input the law returns true; each argument reads behind the call as it read before'; 0 by the template 'total and deterministic' (their statements: YtedfegbafjmkgaaTotals.lean).
  GIVEN WITH THE SEED: the statements are not yours to turn. If you find one false, say at which input.
  Laid BY PROGRAM, IN A SANDBOX (cutbox-rows.mjs): the forced cells as the released guide's own fill.sh prints them over the translation b89ee837844eac78… (all of the seat's roots in one cut). By AI agents, Wed Nov 11 2026. No macro, syntax, notation, axiom, sorry.
-/
import Derived.Test.YtedfegbafjmkgaaChecked
import GoSem.Claim
import GoSem.ClaimJoined
import GoSem.ClaimMapViews
import Derived.JoinedTies
import Derived.KernelRfl
namespace Go.Proofs.Ytedfegbafjmkgaa
/- THE CELL 'sum', in the pinned program and in every row, IS THE sha256 OF THE DUMP (.gsa) THAT YtedfegbafjmkgaaProg.lean LOADS. Nothing in Lean hashes anything: it is a label: what it is worth is what the hold of that sum in a sandbox is worth. -/
noncomputable def Try.pinned : Pinned := { name := "ytedfegbafjmkgaa", sum := "b89ee837844eac787484f53fb1784e846c41c39fd8280218ce092c8160490a63", checked := Try.checked }
namespace Rows
def none {H : Type} : Left H := { results := [], args := [] }

/-- 'warrenlaw4.GraceSafe': WHATEVER THE INPUT: true; the input reads as it did. -/
def graceSafeSpec : ChangeSpec := { name := "graceSafe", fn := fun _ => fun
  | [d] => { results := [.lit (.bool true)], args := [d] }
  | _ => none }
def graceSafeRow : OpenClaim := { program := "ytedfegbafjmkgaa", sum := "b89ee837844eac787484f53fb1784e846c41c39fd8280218ce092c8160490a63", func := "warren/warrenlaw4.GraceSafe", spec := "graceSafe", unfollowed := true, recurses := true, apart := false }
def GraceSafeSaid : Prop := graceSafeRow.holds Try.pinned (OpenSpec.ofChange graceSafeSpec)

/-- ITS FALSE NEIGHBOUR: 'it returns false'. Refute it at one input. -/
def graceSafeWrong : ChangeSpec := { name := "graceSafe", fn := fun _ => fun
  | [d] => { results := [.lit (.bool false)], args := [d] }
  | _ => none }
def GraceSafeWrongFalsely : Prop := graceSafeRow.holds Try.pinned (OpenSpec.ofChange graceSafeWrong)

/-- 'warrenlaw4.GraceFull': WHATEVER THE INPUT: true; the input reads as it did. -/
def graceFullSpec : ChangeSpec := { name := "graceFull", fn := fun _ => fun
  | [d1, d2] => { results := [.lit (.bool true)], args := [d1, d2] }
  | _ => none }
def graceFullRow : OpenClaim := { program := "ytedfegbafjmkgaa", sum := "b89ee837844eac787484f53fb1784e846c41c39fd8280218ce092c8160490a63", func := "warren/warrenlaw4.GraceFull", spec := "graceFull", unfollowed := true, recurses := true, apart := false }
def GraceFullSaid : Prop := graceFullRow.holds Try.pinned (OpenSpec.ofChange graceFullSpec)

/-- ITS FALSE NEIGHBOUR: 'it returns false'. Refute it at one input. -/
def graceFullWrong : ChangeSpec := { name := "graceFull", fn := fun _ => fun
  | [d1, d2] => { results := [.lit (.bool false)], args := [d1, d2] }
  | _ => none }
def GraceFullWrongFalsely : Prop := graceFullRow.holds Try.pinned (OpenSpec.ofChange graceFullWrong)

/-- 'warrenlaw4.GraceNest': WHATEVER THE INPUT: true; the input reads as it did. -/
def graceNestSpec : ChangeSpec := { name := "graceNest", fn := fun _ => fun
  | [d1, d2] => { results := [.lit (.bool true)], args := [d1, d2] }
  | _ => none }
def graceNestRow : OpenClaim := { program := "ytedfegbafjmkgaa", sum := "b89ee837844eac787484f53fb1784e846c41c39fd8280218ce092c8160490a63", func := "warren/warrenlaw4.GraceNest", spec := "graceNest", unfollowed := true, recurses := true, apart := false }
def GraceNestSaid : Prop := graceNestRow.holds Try.pinned (OpenSpec.ofChange graceNestSpec)

/-- ITS FALSE NEIGHBOUR: 'it returns false'. Refute it at one input. -/
def graceNestWrong : ChangeSpec := { name := "graceNest", fn := fun _ => fun
  | [d1, d2] => { results := [.lit (.bool false)], args := [d1, d2] }
  | _ => none }
def GraceNestWrongFalsely : Prop := graceNestRow.holds Try.pinned (OpenSpec.ofChange graceNestWrong)

/-- 'warrenlaw4.GraceNumbers': WHATEVER THE INPUT: true; the input reads as it did. -/
def graceNumbersSpec : ChangeSpec := { name := "graceNumbers", fn := fun _ => fun
  | [] => { results := [.lit (.bool true)], args := [] }
  | _ => none }
def graceNumbersRow : OpenClaim := { program := "ytedfegbafjmkgaa", sum := "b89ee837844eac787484f53fb1784e846c41c39fd8280218ce092c8160490a63", func := "warren/warrenlaw4.GraceNumbers", spec := "graceNumbers", unfollowed := true, recurses := true, apart := false }
def GraceNumbersSaid : Prop := graceNumbersRow.holds Try.pinned (OpenSpec.ofChange graceNumbersSpec)

/-- ITS FALSE NEIGHBOUR: 'it returns false'. Refute it at one input. -/
def graceNumbersWrong : ChangeSpec := { name := "graceNumbers", fn := fun _ => fun
  | [] => { results := [.lit (.bool false)], args := [] }
  | _ => none }
def GraceNumbersWrongFalsely : Prop := graceNumbersRow.holds Try.pinned (OpenSpec.ofChange graceNumbersWrong)

/-- 'warrenlaw4.GracePlays': WHATEVER THE INPUT: true; the input reads as it did. -/
def gracePlaysSpec : ChangeSpec := { name := "gracePlays", fn := fun _ => fun
  | [d1, d2, d3] => { results := [.lit (.bool true)], args := [d1, d2, d3] }
  | _ => none }
def gracePlaysRow : OpenClaim := { program := "ytedfegbafjmkgaa", sum := "b89ee837844eac787484f53fb1784e846c41c39fd8280218ce092c8160490a63", func := "warren/warrenlaw4.GracePlays", spec := "gracePlays", unfollowed := true, recurses := true, apart := false }
def GracePlaysSaid : Prop := gracePlaysRow.holds Try.pinned (OpenSpec.ofChange gracePlaysSpec)

/-- ITS FALSE NEIGHBOUR: 'it returns false'. Refute it at one input. -/
def gracePlaysWrong : ChangeSpec := { name := "gracePlays", fn := fun _ => fun
  | [d1, d2, d3] => { results := [.lit (.bool false)], args := [d1, d2, d3] }
  | _ => none }
def GracePlaysWrongFalsely : Prop := gracePlaysRow.holds Try.pinned (OpenSpec.ofChange gracePlaysWrong)

/- THE SECOND FORM. 'bulk': how many values and letters a reading holds, each counted each time it is reached (what is shared counts as often as it is met; a slice's spare places count too). A statement '..UptoSaid' is the law's where the arguments, and the package variables that the reading takes, are together of bulk at most 1048576: NARROWER than '..Said'. Prove '..Said' where nothing that the law and all that it calls make is longer than what came in: it says more and counts as full. Else prove '..UptoSaid'. A law counts once. -/
mutual
def uptoBulk {H : Type} : DataW H → Nat
  | .lit (.string bytes) => bytes.length + 1
  | .lit _ => 1
  | .nil => 1
  | .ptr d => uptoBulk d + 1
  | .slice elems spare => uptoBulkAll elems + uptoBulkAll spare + 1
  | .agg parts => uptoBulkAll parts + 1
  | .iface _ d => uptoBulk d + 1
  | .map entries => uptoBulkEntries entries + 1
  | .held _ => 1
def uptoBulkAll {H : Type} : List (DataW H) → Nat
  | [] => 0
  | d :: r => uptoBulk d + uptoBulkAll r
def uptoBulkEntries {H : Type} : List (Lit × DataW H) → Nat
  | [] => 0
  | x :: r => uptoBulkEntry x + uptoBulkEntries r
def uptoBulkEntry {H : Type} : Lit × DataW H → Nat
  | (.string bytes, d) => bytes.length + uptoBulk d + 1
  | (_, d) => uptoBulk d + 1
 end
def uptoSmall : (H : Type) → List (DataW H) → Bool := fun _ ds => decide (uptoBulkAll ds ≤ 1048576)
def OpenSpec.upto (s : _root_.Go.ChangeSpec) : _root_.Go.OpenSpec := { _root_.Go.OpenSpec.ofChange s with cond := some uptoSmall }

/-- 'warrenlaw4.GraceSafe', WHERE WHAT IT READS IS OF BULK AT MOST 1048576: true; the input reads as it did. -/
def graceSafeUptoRow : OpenClaim := { program := "ytedfegbafjmkgaa", sum := "b89ee837844eac787484f53fb1784e846c41c39fd8280218ce092c8160490a63", func := "warren/warrenlaw4.GraceSafe", spec := "graceSafe", unfollowed := true, recurses := true, apart := false, narrowed := true }
def GraceSafeUptoSaid : Prop := graceSafeUptoRow.holds Try.pinned (OpenSpec.upto graceSafeSpec)

/-- 'warrenlaw4.GraceFull', WHERE WHAT IT READS IS OF BULK AT MOST 1048576: true; the input reads as it did. -/
def graceFullUptoRow : OpenClaim := { program := "ytedfegbafjmkgaa", sum := "b89ee837844eac787484f53fb1784e846c41c39fd8280218ce092c8160490a63", func := "warren/warrenlaw4.GraceFull", spec := "graceFull", unfollowed := true, recurses := true, apart := false, narrowed := true }
def GraceFullUptoSaid : Prop := graceFullUptoRow.holds Try.pinned (OpenSpec.upto graceFullSpec)

/-- 'warrenlaw4.GraceNest', WHERE WHAT IT READS IS OF BULK AT MOST 1048576: true; the input reads as it did. -/
def graceNestUptoRow : OpenClaim := { program := "ytedfegbafjmkgaa", sum := "b89ee837844eac787484f53fb1784e846c41c39fd8280218ce092c8160490a63", func := "warren/warrenlaw4.GraceNest", spec := "graceNest", unfollowed := true, recurses := true, apart := false, narrowed := true }
def GraceNestUptoSaid : Prop := graceNestUptoRow.holds Try.pinned (OpenSpec.upto graceNestSpec)

/-- 'warrenlaw4.GraceNumbers', WHERE WHAT IT READS IS OF BULK AT MOST 1048576: true; the input reads as it did. -/
def graceNumbersUptoRow : OpenClaim := { program := "ytedfegbafjmkgaa", sum := "b89ee837844eac787484f53fb1784e846c41c39fd8280218ce092c8160490a63", func := "warren/warrenlaw4.GraceNumbers", spec := "graceNumbers", unfollowed := true, recurses := true, apart := false, narrowed := true }
def GraceNumbersUptoSaid : Prop := graceNumbersUptoRow.holds Try.pinned (OpenSpec.upto graceNumbersSpec)

/-- 'warrenlaw4.GracePlays', WHERE WHAT IT READS IS OF BULK AT MOST 1048576: true; the input reads as it did. -/
def gracePlaysUptoRow : OpenClaim := { program := "ytedfegbafjmkgaa", sum := "b89ee837844eac787484f53fb1784e846c41c39fd8280218ce092c8160490a63", func := "warren/warrenlaw4.GracePlays", spec := "gracePlays", unfollowed := true, recurses := true, apart := false, narrowed := true }
def GracePlaysUptoSaid : Prop := gracePlaysUptoRow.holds Try.pinned (OpenSpec.upto gracePlaysSpec)

end Rows
end Go.Proofs.Ytedfegbafjmkgaa
