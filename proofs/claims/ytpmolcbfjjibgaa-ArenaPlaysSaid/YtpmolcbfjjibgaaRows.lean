/-
  No cell of these rows narrows 'for every input' (looked for: loops, veiled, ifaces, maps, wideKeys, modest, calm, conditions, laid).
  DERIVED. THE GIVEN ROWS OF THIS SEAT. 5 by the template 'for every input the law returns true; each argument reads behind the call as it read before'; 0 by the template 'total and deterministic' (their statements: YtpmolcbfjjibgaaTotals.lean).
  GIVEN WITH THE SEED: the statements are not yours to turn. If you find one false, say at which input.
  Laid BY PROGRAM, IN A SANDBOX (cutbox-rows.mjs): the forced cells as the released guide's own fill.sh prints them over the translation ea69bda2f03f43ed… (all of the seat's roots in one cut). By AI agents, Wed Nov 11 2026. No macro, syntax, notation, axiom, sorry.
-/
import Derived.Test.YtpmolcbfjjibgaaChecked
import GoSem.Claim
import GoSem.ClaimJoined
import GoSem.ClaimMapViews
import Derived.JoinedTies
import Derived.KernelRfl
namespace Go.Proofs.Ytpmolcbfjjibgaa
/- THE CELL 'sum', in the pinned program and in every row, IS THE sha256 OF THE DUMP (.gsa) THAT YtpmolcbfjjibgaaProg.lean LOADS. Nothing in Lean hashes anything: it is a label: what it is worth is what the hold of that sum in a sandbox is worth. -/
noncomputable def Try.pinned : Pinned := { name := "ytpmolcbfjjibgaa", sum := "ea69bda2f03f43edabf328cb6f8ae9c57b6e0b5b8b3601bf15405eb77faf9b20", checked := Try.checked }
namespace Rows
def none {H : Type} : Left H := { results := [], args := [] }

/-- 'warrenlaw3.ArenaTurn': WHATEVER THE INPUT: true; the input reads as it did. -/
def arenaTurnSpec : ChangeSpec := { name := "arenaTurn", fn := fun _ => fun
  | [d1, d2] => { results := [.lit (.bool true)], args := [d1, d2] }
  | _ => none }
def arenaTurnRow : OpenClaim := { program := "ytpmolcbfjjibgaa", sum := "ea69bda2f03f43edabf328cb6f8ae9c57b6e0b5b8b3601bf15405eb77faf9b20", func := "warren/warrenlaw3.ArenaTurn", spec := "arenaTurn", apart := false }
def ArenaTurnSaid : Prop := arenaTurnRow.holds Try.pinned (OpenSpec.ofChange arenaTurnSpec)

/-- ITS FALSE NEIGHBOUR: 'it returns false'. Refute it at one input. -/
def arenaTurnWrong : ChangeSpec := { name := "arenaTurn", fn := fun _ => fun
  | [d1, d2] => { results := [.lit (.bool false)], args := [d1, d2] }
  | _ => none }
def ArenaTurnWrongFalsely : Prop := arenaTurnRow.holds Try.pinned (OpenSpec.ofChange arenaTurnWrong)

/-- 'warrenlaw3.ArenaKept': WHATEVER THE INPUT: true; the input reads as it did. -/
def arenaKeptSpec : ChangeSpec := { name := "arenaKept", fn := fun _ => fun
  | [] => { results := [.lit (.bool true)], args := [] }
  | _ => none }
def arenaKeptRow : OpenClaim := { program := "ytpmolcbfjjibgaa", sum := "ea69bda2f03f43edabf328cb6f8ae9c57b6e0b5b8b3601bf15405eb77faf9b20", func := "warren/warrenlaw3.ArenaKept", spec := "arenaKept", unfollowed := true, recurses := true, apart := false }
def ArenaKeptSaid : Prop := arenaKeptRow.holds Try.pinned (OpenSpec.ofChange arenaKeptSpec)

/-- ITS FALSE NEIGHBOUR: 'it returns false'. Refute it at one input. -/
def arenaKeptWrong : ChangeSpec := { name := "arenaKept", fn := fun _ => fun
  | [] => { results := [.lit (.bool false)], args := [] }
  | _ => none }
def ArenaKeptWrongFalsely : Prop := arenaKeptRow.holds Try.pinned (OpenSpec.ofChange arenaKeptWrong)

/-- 'warrenlaw3.ArenaElder': WHATEVER THE INPUT: true; the input reads as it did. -/
def arenaElderSpec : ChangeSpec := { name := "arenaElder", fn := fun _ => fun
  | [d1, d2] => { results := [.lit (.bool true)], args := [d1, d2] }
  | _ => none }
def arenaElderRow : OpenClaim := { program := "ytpmolcbfjjibgaa", sum := "ea69bda2f03f43edabf328cb6f8ae9c57b6e0b5b8b3601bf15405eb77faf9b20", func := "warren/warrenlaw3.ArenaElder", spec := "arenaElder", unfollowed := true, recurses := true, apart := false }
def ArenaElderSaid : Prop := arenaElderRow.holds Try.pinned (OpenSpec.ofChange arenaElderSpec)

/-- ITS FALSE NEIGHBOUR: 'it returns false'. Refute it at one input. -/
def arenaElderWrong : ChangeSpec := { name := "arenaElder", fn := fun _ => fun
  | [d1, d2] => { results := [.lit (.bool false)], args := [d1, d2] }
  | _ => none }
def ArenaElderWrongFalsely : Prop := arenaElderRow.holds Try.pinned (OpenSpec.ofChange arenaElderWrong)

/-- 'warrenlaw3.ArenaNumbers': WHATEVER THE INPUT: true; the input reads as it did. -/
def arenaNumbersSpec : ChangeSpec := { name := "arenaNumbers", fn := fun _ => fun
  | [] => { results := [.lit (.bool true)], args := [] }
  | _ => none }
def arenaNumbersRow : OpenClaim := { program := "ytpmolcbfjjibgaa", sum := "ea69bda2f03f43edabf328cb6f8ae9c57b6e0b5b8b3601bf15405eb77faf9b20", func := "warren/warrenlaw3.ArenaNumbers", spec := "arenaNumbers", unfollowed := true, recurses := true, apart := false }
def ArenaNumbersSaid : Prop := arenaNumbersRow.holds Try.pinned (OpenSpec.ofChange arenaNumbersSpec)

/-- ITS FALSE NEIGHBOUR: 'it returns false'. Refute it at one input. -/
def arenaNumbersWrong : ChangeSpec := { name := "arenaNumbers", fn := fun _ => fun
  | [] => { results := [.lit (.bool false)], args := [] }
  | _ => none }
def ArenaNumbersWrongFalsely : Prop := arenaNumbersRow.holds Try.pinned (OpenSpec.ofChange arenaNumbersWrong)

/-- 'warrenlaw3.ArenaPlays': WHATEVER THE INPUT: true; the input reads as it did. -/
def arenaPlaysSpec : ChangeSpec := { name := "arenaPlays", fn := fun _ => fun
  | [d1, d2] => { results := [.lit (.bool true)], args := [d1, d2] }
  | _ => none }
def arenaPlaysRow : OpenClaim := { program := "ytpmolcbfjjibgaa", sum := "ea69bda2f03f43edabf328cb6f8ae9c57b6e0b5b8b3601bf15405eb77faf9b20", func := "warren/warrenlaw3.ArenaPlays", spec := "arenaPlays", unfollowed := true, recurses := true, apart := false }
def ArenaPlaysSaid : Prop := arenaPlaysRow.holds Try.pinned (OpenSpec.ofChange arenaPlaysSpec)

/-- ITS FALSE NEIGHBOUR: 'it returns false'. Refute it at one input. -/
def arenaPlaysWrong : ChangeSpec := { name := "arenaPlays", fn := fun _ => fun
  | [d1, d2] => { results := [.lit (.bool false)], args := [d1, d2] }
  | _ => none }
def ArenaPlaysWrongFalsely : Prop := arenaPlaysRow.holds Try.pinned (OpenSpec.ofChange arenaPlaysWrong)

/- THE SECOND FORM. 'bulk': how many values and letters a reading holds, each counted each time it is reached (what is shared counts as often as it is met; a slice's spare places count too). A statement '..UptoSaid' is the law's where the arguments, and the package variables that the reading takes, are together of bulk at most 1048576: NARROWER than '..Said'. Prove '..Said' where nothing that the law and all that it calls make is longer than what came in: it says more and counts as full. Else prove '..UptoSaid'. A law counts once. -/
mutual
def uptoBulk {H : Type} : DataW H → Nat
  | .lit (.string bytes) => bytes.length + 1
  | .lit _ => 1
  | .nil => 1
  | .ptr d => uptoBulk d + 1
  | .slice elems spare => uptoBulkAll elems + uptoBulkAll spare + 1
  | .agg parts => uptoBulkAll parts + 1
  | .iface _ d => uptoBulk d + 1
  | .map entries => uptoBulkEntries entries + 1
  | .held _ => 1
def uptoBulkAll {H : Type} : List (DataW H) → Nat
  | [] => 0
  | d :: r => uptoBulk d + uptoBulkAll r
def uptoBulkEntries {H : Type} : List (Lit × DataW H) → Nat
  | [] => 0
  | x :: r => uptoBulkEntry x + uptoBulkEntries r
def uptoBulkEntry {H : Type} : Lit × DataW H → Nat
  | (.string bytes, d) => bytes.length + uptoBulk d + 1
  | (_, d) => uptoBulk d + 1
 end
def uptoSmall : (H : Type) → List (DataW H) → Bool := fun _ ds => decide (uptoBulkAll ds ≤ 1048576)
def OpenSpec.upto (s : _root_.Go.ChangeSpec) : _root_.Go.OpenSpec := { _root_.Go.OpenSpec.ofChange s with cond := some uptoSmall }

/-- 'warrenlaw3.ArenaTurn', WHERE WHAT IT READS IS OF BULK AT MOST 1048576: true; the input reads as it did. -/
def arenaTurnUptoRow : OpenClaim := { program := "ytpmolcbfjjibgaa", sum := "ea69bda2f03f43edabf328cb6f8ae9c57b6e0b5b8b3601bf15405eb77faf9b20", func := "warren/warrenlaw3.ArenaTurn", spec := "arenaTurn", apart := false, narrowed := true }
def ArenaTurnUptoSaid : Prop := arenaTurnUptoRow.holds Try.pinned (OpenSpec.upto arenaTurnSpec)

/-- 'warrenlaw3.ArenaKept', WHERE WHAT IT READS IS OF BULK AT MOST 1048576: true; the input reads as it did. -/
def arenaKeptUptoRow : OpenClaim := { program := "ytpmolcbfjjibgaa", sum := "ea69bda2f03f43edabf328cb6f8ae9c57b6e0b5b8b3601bf15405eb77faf9b20", func := "warren/warrenlaw3.ArenaKept", spec := "arenaKept", unfollowed := true, recurses := true, apart := false, narrowed := true }
def ArenaKeptUptoSaid : Prop := arenaKeptUptoRow.holds Try.pinned (OpenSpec.upto arenaKeptSpec)

/-- 'warrenlaw3.ArenaElder', WHERE WHAT IT READS IS OF BULK AT MOST 1048576: true; the input reads as it did. -/
def arenaElderUptoRow : OpenClaim := { program := "ytpmolcbfjjibgaa", sum := "ea69bda2f03f43edabf328cb6f8ae9c57b6e0b5b8b3601bf15405eb77faf9b20", func := "warren/warrenlaw3.ArenaElder", spec := "arenaElder", unfollowed := true, recurses := true, apart := false, narrowed := true }
def ArenaElderUptoSaid : Prop := arenaElderUptoRow.holds Try.pinned (OpenSpec.upto arenaElderSpec)

/-- 'warrenlaw3.ArenaNumbers', WHERE WHAT IT READS IS OF BULK AT MOST 1048576: true; the input reads as it did. -/
def arenaNumbersUptoRow : OpenClaim := { program := "ytpmolcbfjjibgaa", sum := "ea69bda2f03f43edabf328cb6f8ae9c57b6e0b5b8b3601bf15405eb77faf9b20", func := "warren/warrenlaw3.ArenaNumbers", spec := "arenaNumbers", unfollowed := true, recurses := true, apart := false, narrowed := true }
def ArenaNumbersUptoSaid : Prop := arenaNumbersUptoRow.holds Try.pinned (OpenSpec.upto arenaNumbersSpec)

/-- 'warrenlaw3.ArenaPlays', WHERE WHAT IT READS IS OF BULK AT MOST 1048576: true; the input reads as it did. -/
def arenaPlaysUptoRow : OpenClaim := { program := "ytpmolcbfjjibgaa", sum := "ea69bda2f03f43edabf328cb6f8ae9c57b6e0b5b8b3601bf15405eb77faf9b20", func := "warren/warrenlaw3.ArenaPlays", spec := "arenaPlays", unfollowed := true, recurses := true, apart := false, narrowed := true }
def ArenaPlaysUptoSaid : Prop := arenaPlaysUptoRow.holds Try.pinned (OpenSpec.upto arenaPlaysSpec)

end Rows
end Go.Proofs.Ytpmolcbfjjibgaa
