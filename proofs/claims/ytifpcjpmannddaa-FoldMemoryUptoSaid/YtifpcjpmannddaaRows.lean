/-
  No cell of these rows narrows 'for every input' (looked for: loops, veiled, ifaces, maps, wideKeys, modest, calm, conditions, laid).
  DERIVED. THE GIVEN ROWS OF THIS SEAT. 4 by the template 'for every input the law returns true; each argument reads behind the call as it read before'; 0 by the template 'total and deterministic' (their statements: YtifpcjpmannddaaTotals.lean).
  GIVEN WITH THE SEED: the statements are not yours to turn. If you find one false, say at which input.
  Laid BY PROGRAM, IN A SANDBOX (cutbox-rows.mjs): the forced cells as the released guide's own fill.sh prints them over the translation 6468444109dc5155… (all of the seat's roots in one cut). By AI agents, Wed Nov 11 2026. No macro, syntax, notation, axiom, sorry.
-/
import Derived.Test.YtifpcjpmannddaaChecked
import GoSem.Claim
import GoSem.ClaimJoined
import GoSem.ClaimMapViews
import Derived.JoinedTies
import Derived.KernelRfl
namespace Go.Proofs.Ytifpcjpmannddaa
/- THE CELL 'sum', in the pinned program and in every row, IS THE sha256 OF THE DUMP (.gsa) THAT YtifpcjpmannddaaProg.lean LOADS. Nothing in Lean hashes anything: it is a label: what it is worth is what the hold of that sum in a sandbox is worth. -/
noncomputable def Try.pinned : Pinned := { name := "ytifpcjpmannddaa", sum := "6468444109dc51557b70be2e6fd339a461d20b4ca5ec6ba0957f4429de84fd9d", checked := Try.checked }
namespace Rows
def none {H : Type} : Left H := { results := [], args := [] }

/-- 'repriselaw05.FoldParts': WHATEVER THE INPUT: true; the input reads as it did. -/
def foldPartsSpec : ChangeSpec := { name := "foldParts", fn := fun _ => fun
  | [d] => { results := [.lit (.bool true)], args := [d] }
  | _ => none }
def foldPartsRow : OpenClaim := { program := "ytifpcjpmannddaa", sum := "6468444109dc51557b70be2e6fd339a461d20b4ca5ec6ba0957f4429de84fd9d", func := "reprise/repriselaw05.FoldParts", spec := "foldParts", inPlace := ["math.Float64frombits", "math.Float64bits", "math.archFloor", "math.archTrunc"], unfollowed := true, recurses := true, apart := false }
def FoldPartsSaid : Prop := foldPartsRow.holds Try.pinned (OpenSpec.ofChange foldPartsSpec)

/-- ITS FALSE NEIGHBOUR: 'it returns false'. Refute it at one input. -/
def foldPartsWrong : ChangeSpec := { name := "foldParts", fn := fun _ => fun
  | [d] => { results := [.lit (.bool false)], args := [d] }
  | _ => none }
def FoldPartsWrongFalsely : Prop := foldPartsRow.holds Try.pinned (OpenSpec.ofChange foldPartsWrong)

/-- 'repriselaw05.FoldTraps': WHATEVER THE INPUT: true; the input reads as it did. -/
def foldTrapsSpec : ChangeSpec := { name := "foldTraps", fn := fun _ => fun
  | [d] => { results := [.lit (.bool true)], args := [d] }
  | _ => none }
def foldTrapsRow : OpenClaim := { program := "ytifpcjpmannddaa", sum := "6468444109dc51557b70be2e6fd339a461d20b4ca5ec6ba0957f4429de84fd9d", func := "reprise/repriselaw05.FoldTraps", spec := "foldTraps", inPlace := ["math.Float64frombits", "math.Float64bits", "math.archFloor", "math.archTrunc"], unfollowed := true, recurses := true, apart := false }
def FoldTrapsSaid : Prop := foldTrapsRow.holds Try.pinned (OpenSpec.ofChange foldTrapsSpec)

/-- ITS FALSE NEIGHBOUR: 'it returns false'. Refute it at one input. -/
def foldTrapsWrong : ChangeSpec := { name := "foldTraps", fn := fun _ => fun
  | [d] => { results := [.lit (.bool false)], args := [d] }
  | _ => none }
def FoldTrapsWrongFalsely : Prop := foldTrapsRow.holds Try.pinned (OpenSpec.ofChange foldTrapsWrong)

/-- 'repriselaw05.FoldOne': WHATEVER THE INPUT: true; the input reads as it did. -/
def foldOneSpec : ChangeSpec := { name := "foldOne", fn := fun _ => fun
  | [d] => { results := [.lit (.bool true)], args := [d] }
  | _ => none }
def foldOneRow : OpenClaim := { program := "ytifpcjpmannddaa", sum := "6468444109dc51557b70be2e6fd339a461d20b4ca5ec6ba0957f4429de84fd9d", func := "reprise/repriselaw05.FoldOne", spec := "foldOne", inPlace := ["math.Float64frombits", "math.Float64bits", "math.archFloor", "math.archTrunc"], unfollowed := true, recurses := true, apart := false }
def FoldOneSaid : Prop := foldOneRow.holds Try.pinned (OpenSpec.ofChange foldOneSpec)

/-- ITS FALSE NEIGHBOUR: 'it returns false'. Refute it at one input. -/
def foldOneWrong : ChangeSpec := { name := "foldOne", fn := fun _ => fun
  | [d] => { results := [.lit (.bool false)], args := [d] }
  | _ => none }
def FoldOneWrongFalsely : Prop := foldOneRow.holds Try.pinned (OpenSpec.ofChange foldOneWrong)

/-- 'repriselaw05.FoldMemory': WHATEVER THE INPUT: true; the input reads as it did. -/
def foldMemorySpec : ChangeSpec := { name := "foldMemory", fn := fun _ => fun
  | [d1, d2, d3] => { results := [.lit (.bool true)], args := [d1, d2, d3] }
  | _ => none }
def foldMemoryRow : OpenClaim := { program := "ytifpcjpmannddaa", sum := "6468444109dc51557b70be2e6fd339a461d20b4ca5ec6ba0957f4429de84fd9d", func := "reprise/repriselaw05.FoldMemory", spec := "foldMemory", inPlace := ["math.Float64frombits", "math.Float64bits", "math.archFloor", "math.archTrunc"], unfollowed := true, recurses := true, apart := false }
def FoldMemorySaid : Prop := foldMemoryRow.holds Try.pinned (OpenSpec.ofChange foldMemorySpec)

/-- ITS FALSE NEIGHBOUR: 'it returns false'. Refute it at one input. -/
def foldMemoryWrong : ChangeSpec := { name := "foldMemory", fn := fun _ => fun
  | [d1, d2, d3] => { results := [.lit (.bool false)], args := [d1, d2, d3] }
  | _ => none }
def FoldMemoryWrongFalsely : Prop := foldMemoryRow.holds Try.pinned (OpenSpec.ofChange foldMemoryWrong)

/- THE SECOND FORM. 'bulk': how many values and letters a reading holds, each counted each time it is reached (what is shared counts as often as it is met; a slice's spare places count too). A statement '..UptoSaid' is the law's where the arguments, and the package variables that the reading takes, are together of bulk at most 1048576: NARROWER than '..Said'. Prove '..Said' where nothing that the law and all that it calls make is longer than what came in: it says more and counts as full. Else prove '..UptoSaid'. A law counts once. -/
mutual
def uptoBulk {H : Type} : DataW H → Nat
  | .lit (.string bytes) => bytes.length + 1
  | .lit _ => 1
  | .nil => 1
  | .ptr d => uptoBulk d + 1
  | .slice elems spare => uptoBulkAll elems + uptoBulkAll spare + 1
  | .agg parts => uptoBulkAll parts + 1
  | .iface _ d => uptoBulk d + 1
  | .map entries => uptoBulkEntries entries + 1
  | .held _ => 1
def uptoBulkAll {H : Type} : List (DataW H) → Nat
  | [] => 0
  | d :: r => uptoBulk d + uptoBulkAll r
def uptoBulkEntries {H : Type} : List (Lit × DataW H) → Nat
  | [] => 0
  | x :: r => uptoBulkEntry x + uptoBulkEntries r
def uptoBulkEntry {H : Type} : Lit × DataW H → Nat
  | (.string bytes, d) => bytes.length + uptoBulk d + 1
  | (_, d) => uptoBulk d + 1
 end
def uptoSmall : (H : Type) → List (DataW H) → Bool := fun _ ds => decide (uptoBulkAll ds ≤ 1048576)
def OpenSpec.upto (s : _root_.Go.ChangeSpec) : _root_.Go.OpenSpec := { _root_.Go.OpenSpec.ofChange s with cond := some uptoSmall }

/-- 'repriselaw05.FoldParts', WHERE WHAT IT READS IS OF BULK AT MOST 1048576: true; the input reads as it did. -/
def foldPartsUptoRow : OpenClaim := { program := "ytifpcjpmannddaa", sum := "6468444109dc51557b70be2e6fd339a461d20b4ca5ec6ba0957f4429de84fd9d", func := "reprise/repriselaw05.FoldParts", spec := "foldParts", inPlace := ["math.Float64frombits", "math.Float64bits", "math.archFloor", "math.archTrunc"], unfollowed := true, recurses := true, apart := false, narrowed := true }
def FoldPartsUptoSaid : Prop := foldPartsUptoRow.holds Try.pinned (OpenSpec.upto foldPartsSpec)

/-- 'repriselaw05.FoldTraps', WHERE WHAT IT READS IS OF BULK AT MOST 1048576: true; the input reads as it did. -/
def foldTrapsUptoRow : OpenClaim := { program := "ytifpcjpmannddaa", sum := "6468444109dc51557b70be2e6fd339a461d20b4ca5ec6ba0957f4429de84fd9d", func := "reprise/repriselaw05.FoldTraps", spec := "foldTraps", inPlace := ["math.Float64frombits", "math.Float64bits", "math.archFloor", "math.archTrunc"], unfollowed := true, recurses := true, apart := false, narrowed := true }
def FoldTrapsUptoSaid : Prop := foldTrapsUptoRow.holds Try.pinned (OpenSpec.upto foldTrapsSpec)

/-- 'repriselaw05.FoldOne', WHERE WHAT IT READS IS OF BULK AT MOST 1048576: true; the input reads as it did. -/
def foldOneUptoRow : OpenClaim := { program := "ytifpcjpmannddaa", sum := "6468444109dc51557b70be2e6fd339a461d20b4ca5ec6ba0957f4429de84fd9d", func := "reprise/repriselaw05.FoldOne", spec := "foldOne", inPlace := ["math.Float64frombits", "math.Float64bits", "math.archFloor", "math.archTrunc"], unfollowed := true, recurses := true, apart := false, narrowed := true }
def FoldOneUptoSaid : Prop := foldOneUptoRow.holds Try.pinned (OpenSpec.upto foldOneSpec)

/-- 'repriselaw05.FoldMemory', WHERE WHAT IT READS IS OF BULK AT MOST 1048576: true; the input reads as it did. -/
def foldMemoryUptoRow : OpenClaim := { program := "ytifpcjpmannddaa", sum := "6468444109dc51557b70be2e6fd339a461d20b4ca5ec6ba0957f4429de84fd9d", func := "reprise/repriselaw05.FoldMemory", spec := "foldMemory", inPlace := ["math.Float64frombits", "math.Float64bits", "math.archFloor", "math.archTrunc"], unfollowed := true, recurses := true, apart := false, narrowed := true }
def FoldMemoryUptoSaid : Prop := foldMemoryUptoRow.holds Try.pinned (OpenSpec.upto foldMemorySpec)

end Rows
end Go.Proofs.Ytifpcjpmannddaa
