/-
  No cell of these rows narrows 'for every input' (looked for: loops, veiled, ifaces, maps, wideKeys, modest, calm, conditions, laid).
  DERIVED. THE GIVEN ROWS OF THIS SEAT. 4 by the template 'for every input the law returns true; each argument reads behind the call as it read before'; 0 by the template 'total and deterministic' (their statements: YtfmhiamgfhdmmaaTotals.lean).
  GIVEN WITH THE SEED: the statements are not yours to turn. If you find one false, say at which input.
  Laid BY PROGRAM, IN A SANDBOX (cutbox-rows.mjs): the forced cells as the released guide's own fill.sh prints them over the translation 6676fc78c34bbc87… (all of the seat's roots in one cut). By AI agents, Wed Nov 11 2026. No macro, syntax, notation, axiom, sorry.
-/
import Derived.Test.YtfmhiamgfhdmmaaChecked
import GoSem.Claim
import GoSem.ClaimJoined
import GoSem.ClaimMapViews
import Derived.JoinedTies
import Derived.KernelRfl
namespace Go.Proofs.Ytfmhiamgfhdmmaa
/- THE CELL 'sum', in the pinned program and in every row, IS THE sha256 OF THE DUMP (.gsa) THAT YtfmhiamgfhdmmaaProg.lean LOADS. Nothing in Lean hashes anything: it is a label: what it is worth is what the hold of that sum in a sandbox is worth. -/
noncomputable def Try.pinned : Pinned := { name := "ytfmhiamgfhdmmaa", sum := "6676fc78c34bbc8759989696d6fe707993d4927fc46986d7c14bbbcb362a55ef", checked := Try.checked }
namespace Rows
def none {H : Type} : Left H := { results := [], args := [] }

/-- 'warrenlaw14.FileLowest': WHATEVER THE INPUT: true; the input reads as it did. -/
def fileLowestSpec : ChangeSpec := { name := "fileLowest", fn := fun _ => fun
  | [d] => { results := [.lit (.bool true)], args := [d] }
  | _ => none }
def fileLowestRow : OpenClaim := { program := "ytfmhiamgfhdmmaa", sum := "6676fc78c34bbc8759989696d6fe707993d4927fc46986d7c14bbbcb362a55ef", func := "warren/warrenlaw14.FileLowest", spec := "fileLowest", unfollowed := true, recurses := true, apart := false }
def FileLowestSaid : Prop := fileLowestRow.holds Try.pinned (OpenSpec.ofChange fileLowestSpec)

/-- ITS FALSE NEIGHBOUR: 'it returns false'. Refute it at one input. -/
def fileLowestWrong : ChangeSpec := { name := "fileLowest", fn := fun _ => fun
  | [d] => { results := [.lit (.bool false)], args := [d] }
  | _ => none }
def FileLowestWrongFalsely : Prop := fileLowestRow.holds Try.pinned (OpenSpec.ofChange fileLowestWrong)

/-- 'warrenlaw14.FileNumbers': WHATEVER THE INPUT: true; the input reads as it did. -/
def fileNumbersSpec : ChangeSpec := { name := "fileNumbers", fn := fun _ => fun
  | [] => { results := [.lit (.bool true)], args := [] }
  | _ => none }
def fileNumbersRow : OpenClaim := { program := "ytfmhiamgfhdmmaa", sum := "6676fc78c34bbc8759989696d6fe707993d4927fc46986d7c14bbbcb362a55ef", func := "warren/warrenlaw14.FileNumbers", spec := "fileNumbers", unfollowed := true, recurses := true, apart := false }
def FileNumbersSaid : Prop := fileNumbersRow.holds Try.pinned (OpenSpec.ofChange fileNumbersSpec)

/-- ITS FALSE NEIGHBOUR: 'it returns false'. Refute it at one input. -/
def fileNumbersWrong : ChangeSpec := { name := "fileNumbers", fn := fun _ => fun
  | [] => { results := [.lit (.bool false)], args := [] }
  | _ => none }
def FileNumbersWrongFalsely : Prop := fileNumbersRow.holds Try.pinned (OpenSpec.ofChange fileNumbersWrong)

/-- 'warrenlaw14.FilePlays': WHATEVER THE INPUT: true; the input reads as it did. -/
def filePlaysSpec : ChangeSpec := { name := "filePlays", fn := fun _ => fun
  | [d1, d2] => { results := [.lit (.bool true)], args := [d1, d2] }
  | _ => none }
def filePlaysRow : OpenClaim := { program := "ytfmhiamgfhdmmaa", sum := "6676fc78c34bbc8759989696d6fe707993d4927fc46986d7c14bbbcb362a55ef", func := "warren/warrenlaw14.FilePlays", spec := "filePlays", unfollowed := true, recurses := true, apart := false }
def FilePlaysSaid : Prop := filePlaysRow.holds Try.pinned (OpenSpec.ofChange filePlaysSpec)

/-- ITS FALSE NEIGHBOUR: 'it returns false'. Refute it at one input. -/
def filePlaysWrong : ChangeSpec := { name := "filePlays", fn := fun _ => fun
  | [d1, d2] => { results := [.lit (.bool false)], args := [d1, d2] }
  | _ => none }
def FilePlaysWrongFalsely : Prop := filePlaysRow.holds Try.pinned (OpenSpec.ofChange filePlaysWrong)

/-- 'warrenlaw14.FilePlaces': WHATEVER THE INPUT: true; the input reads as it did. -/
def filePlacesSpec : ChangeSpec := { name := "filePlaces", fn := fun _ => fun
  | [d] => { results := [.lit (.bool true)], args := [d] }
  | _ => none }
def filePlacesRow : OpenClaim := { program := "ytfmhiamgfhdmmaa", sum := "6676fc78c34bbc8759989696d6fe707993d4927fc46986d7c14bbbcb362a55ef", func := "warren/warrenlaw14.FilePlaces", spec := "filePlaces", unfollowed := true, recurses := true, apart := false }
def FilePlacesSaid : Prop := filePlacesRow.holds Try.pinned (OpenSpec.ofChange filePlacesSpec)

/-- ITS FALSE NEIGHBOUR: 'it returns false'. Refute it at one input. -/
def filePlacesWrong : ChangeSpec := { name := "filePlaces", fn := fun _ => fun
  | [d] => { results := [.lit (.bool false)], args := [d] }
  | _ => none }
def FilePlacesWrongFalsely : Prop := filePlacesRow.holds Try.pinned (OpenSpec.ofChange filePlacesWrong)

/- THE SECOND FORM. 'bulk': how many values and letters a reading holds, each counted each time it is reached (what is shared counts as often as it is met; a slice's spare places count too). A statement '..UptoSaid' is the law's where the arguments, and the package variables that the reading takes, are together of bulk at most 1048576: NARROWER than '..Said'. Prove '..Said' where nothing that the law and all that it calls make is longer than what came in: it says more and counts as full. Else prove '..UptoSaid'. A law counts once. -/
mutual
def uptoBulk {H : Type} : DataW H → Nat
  | .lit (.string bytes) => bytes.length + 1
  | .lit _ => 1
  | .nil => 1
  | .ptr d => uptoBulk d + 1
  | .slice elems spare => uptoBulkAll elems + uptoBulkAll spare + 1
  | .agg parts => uptoBulkAll parts + 1
  | .iface _ d => uptoBulk d + 1
  | .map entries => uptoBulkEntries entries + 1
  | .held _ => 1
def uptoBulkAll {H : Type} : List (DataW H) → Nat
  | [] => 0
  | d :: r => uptoBulk d + uptoBulkAll r
def uptoBulkEntries {H : Type} : List (Lit × DataW H) → Nat
  | [] => 0
  | x :: r => uptoBulkEntry x + uptoBulkEntries r
def uptoBulkEntry {H : Type} : Lit × DataW H → Nat
  | (.string bytes, d) => bytes.length + uptoBulk d + 1
  | (_, d) => uptoBulk d + 1
 end
def uptoSmall : (H : Type) → List (DataW H) → Bool := fun _ ds => decide (uptoBulkAll ds ≤ 1048576)
def OpenSpec.upto (s : _root_.Go.ChangeSpec) : _root_.Go.OpenSpec := { _root_.Go.OpenSpec.ofChange s with cond := some uptoSmall }

/-- 'warrenlaw14.FileLowest', WHERE WHAT IT READS IS OF BULK AT MOST 1048576: true; the input reads as it did. -/
def fileLowestUptoRow : OpenClaim := { program := "ytfmhiamgfhdmmaa", sum := "6676fc78c34bbc8759989696d6fe707993d4927fc46986d7c14bbbcb362a55ef", func := "warren/warrenlaw14.FileLowest", spec := "fileLowest", unfollowed := true, recurses := true, apart := false, narrowed := true }
def FileLowestUptoSaid : Prop := fileLowestUptoRow.holds Try.pinned (OpenSpec.upto fileLowestSpec)

/-- 'warrenlaw14.FileNumbers', WHERE WHAT IT READS IS OF BULK AT MOST 1048576: true; the input reads as it did. -/
def fileNumbersUptoRow : OpenClaim := { program := "ytfmhiamgfhdmmaa", sum := "6676fc78c34bbc8759989696d6fe707993d4927fc46986d7c14bbbcb362a55ef", func := "warren/warrenlaw14.FileNumbers", spec := "fileNumbers", unfollowed := true, recurses := true, apart := false, narrowed := true }
def FileNumbersUptoSaid : Prop := fileNumbersUptoRow.holds Try.pinned (OpenSpec.upto fileNumbersSpec)

/-- 'warrenlaw14.FilePlays', WHERE WHAT IT READS IS OF BULK AT MOST 1048576: true; the input reads as it did. -/
def filePlaysUptoRow : OpenClaim := { program := "ytfmhiamgfhdmmaa", sum := "6676fc78c34bbc8759989696d6fe707993d4927fc46986d7c14bbbcb362a55ef", func := "warren/warrenlaw14.FilePlays", spec := "filePlays", unfollowed := true, recurses := true, apart := false, narrowed := true }
def FilePlaysUptoSaid : Prop := filePlaysUptoRow.holds Try.pinned (OpenSpec.upto filePlaysSpec)

/-- 'warrenlaw14.FilePlaces', WHERE WHAT IT READS IS OF BULK AT MOST 1048576: true; the input reads as it did. -/
def filePlacesUptoRow : OpenClaim := { program := "ytfmhiamgfhdmmaa", sum := "6676fc78c34bbc8759989696d6fe707993d4927fc46986d7c14bbbcb362a55ef", func := "warren/warrenlaw14.FilePlaces", spec := "filePlaces", unfollowed := true, recurses := true, apart := false, narrowed := true }
def FilePlacesUptoSaid : Prop := filePlacesUptoRow.holds Try.pinned (OpenSpec.upto filePlacesSpec)

end Rows
end Go.Proofs.Ytfmhiamgfhdmmaa
