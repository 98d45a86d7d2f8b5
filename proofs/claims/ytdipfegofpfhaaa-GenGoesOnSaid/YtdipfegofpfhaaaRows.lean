/-
  No cell of these rows narrows 'for every input' (looked for: loops, veiled, ifaces, maps, wideKeys, modest, calm, conditions, laid).
  DERIVED. THE GIVEN ROWS OF THIS SEAT. 4 by the template 'for every input the law returns true; each argument reads behind the call as it read before'; 0 by the template 'total and deterministic' (their statements: YtdipfegofpfhaaaTotals.lean).
  GIVEN WITH THE SEED: the statements are not yours to turn. If you find one false, say at which input.
  Laid BY PROGRAM, IN A SANDBOX (cutbox-rows.mjs): the forced cells as the released guide's own fill.sh prints them over the translation 5a3697823e674977… (all of the seat's roots in one cut). By AI agents, Wed Nov 11 2026. No macro, syntax, notation, axiom, sorry.
-/
import Derived.Test.YtdipfegofpfhaaaChecked
import GoSem.Claim
import GoSem.ClaimJoined
import GoSem.ClaimMapViews
import Derived.JoinedTies
import Derived.KernelRfl
namespace Go.Proofs.Ytdipfegofpfhaaa
/- THE CELL 'sum', in the pinned program and in every row, IS THE sha256 OF THE DUMP (.gsa) THAT YtdipfegofpfhaaaProg.lean LOADS. Nothing in Lean hashes anything: it is a label: what it is worth is what the hold of that sum in a sandbox is worth. -/
noncomputable def Try.pinned : Pinned := { name := "ytdipfegofpfhaaa", sum := "5a3697823e674977910f3aee62ecf9ba8f2f02b4155d53b2b9852448caae2231", checked := Try.checked }
namespace Rows
def none {H : Type} : Left H := { results := [], args := [] }

/-- 'pelotonlaw08.ModelParts': WHATEVER THE INPUT: true; the input reads as it did. -/
def modelPartsSpec : ChangeSpec := { name := "modelParts", fn := fun _ => fun
  | [d1, d2, d3] => { results := [.lit (.bool true)], args := [d1, d2, d3] }
  | _ => none }
def modelPartsRow : OpenClaim := { program := "ytdipfegofpfhaaa", sum := "5a3697823e674977910f3aee62ecf9ba8f2f02b4155d53b2b9852448caae2231", func := "peloton/pelotonlaw08.ModelParts", spec := "modelParts", inPlace := ["maps.clone"], unfollowed := true, recurses := true, plainKeys := false, apart := false }
def ModelPartsSaid : Prop := modelPartsRow.holds Try.pinned (OpenSpec.ofChange modelPartsSpec)

/-- ITS FALSE NEIGHBOUR: 'it returns false'. Refute it at one input. -/
def modelPartsWrong : ChangeSpec := { name := "modelParts", fn := fun _ => fun
  | [d1, d2, d3] => { results := [.lit (.bool false)], args := [d1, d2, d3] }
  | _ => none }
def ModelPartsWrongFalsely : Prop := modelPartsRow.holds Try.pinned (OpenSpec.ofChange modelPartsWrong)

/-- 'pelotonlaw09.GenChecks': WHATEVER THE INPUT: true; the input reads as it did. -/
def genChecksSpec : ChangeSpec := { name := "genChecks", fn := fun _ => fun
  | [d1, d2, d3] => { results := [.lit (.bool true)], args := [d1, d2, d3] }
  | _ => none }
def genChecksRow : OpenClaim := { program := "ytdipfegofpfhaaa", sum := "5a3697823e674977910f3aee62ecf9ba8f2f02b4155d53b2b9852448caae2231", func := "peloton/pelotonlaw09.GenChecks", spec := "genChecks", unfollowed := true, recurses := true, plainKeys := false, apart := false }
def GenChecksSaid : Prop := genChecksRow.holds Try.pinned (OpenSpec.ofChange genChecksSpec)

/-- ITS FALSE NEIGHBOUR: 'it returns false'. Refute it at one input. -/
def genChecksWrong : ChangeSpec := { name := "genChecks", fn := fun _ => fun
  | [d1, d2, d3] => { results := [.lit (.bool false)], args := [d1, d2, d3] }
  | _ => none }
def GenChecksWrongFalsely : Prop := genChecksRow.holds Try.pinned (OpenSpec.ofChange genChecksWrong)

/-- 'pelotonlaw09.GenEach': WHATEVER THE INPUT: true; the input reads as it did. -/
def genEachSpec : ChangeSpec := { name := "genEach", fn := fun _ => fun
  | [d1, d2, d3] => { results := [.lit (.bool true)], args := [d1, d2, d3] }
  | _ => none }
def genEachRow : OpenClaim := { program := "ytdipfegofpfhaaa", sum := "5a3697823e674977910f3aee62ecf9ba8f2f02b4155d53b2b9852448caae2231", func := "peloton/pelotonlaw09.GenEach", spec := "genEach", unfollowed := true, recurses := true, plainKeys := false, apart := false }
def GenEachSaid : Prop := genEachRow.holds Try.pinned (OpenSpec.ofChange genEachSpec)

/-- ITS FALSE NEIGHBOUR: 'it returns false'. Refute it at one input. -/
def genEachWrong : ChangeSpec := { name := "genEach", fn := fun _ => fun
  | [d1, d2, d3] => { results := [.lit (.bool false)], args := [d1, d2, d3] }
  | _ => none }
def GenEachWrongFalsely : Prop := genEachRow.holds Try.pinned (OpenSpec.ofChange genEachWrong)

/-- 'pelotonlaw09.GenGoesOn': WHATEVER THE INPUT: true; the input reads as it did. -/
def genGoesOnSpec : ChangeSpec := { name := "genGoesOn", fn := fun _ => fun
  | [d1, d2, d3] => { results := [.lit (.bool true)], args := [d1, d2, d3] }
  | _ => none }
def genGoesOnRow : OpenClaim := { program := "ytdipfegofpfhaaa", sum := "5a3697823e674977910f3aee62ecf9ba8f2f02b4155d53b2b9852448caae2231", func := "peloton/pelotonlaw09.GenGoesOn", spec := "genGoesOn", unfollowed := true, recurses := true, plainKeys := false, apart := false }
def GenGoesOnSaid : Prop := genGoesOnRow.holds Try.pinned (OpenSpec.ofChange genGoesOnSpec)

/-- ITS FALSE NEIGHBOUR: 'it returns false'. Refute it at one input. -/
def genGoesOnWrong : ChangeSpec := { name := "genGoesOn", fn := fun _ => fun
  | [d1, d2, d3] => { results := [.lit (.bool false)], args := [d1, d2, d3] }
  | _ => none }
def GenGoesOnWrongFalsely : Prop := genGoesOnRow.holds Try.pinned (OpenSpec.ofChange genGoesOnWrong)

/- THE SECOND FORM. 'bulk': how many values and letters a reading holds, each counted each time it is reached (what is shared counts as often as it is met; a slice's spare places count too). A statement '..UptoSaid' is the law's where the arguments, and the package variables that the reading takes, are together of bulk at most 1048576: NARROWER than '..Said'. Prove '..Said' where nothing that the law and all that it calls make is longer than what came in: it says more and counts as full. Else prove '..UptoSaid'. A law counts once. -/
mutual
def uptoBulk {H : Type} : DataW H → Nat
  | .lit (.string bytes) => bytes.length + 1
  | .lit _ => 1
  | .nil => 1
  | .ptr d => uptoBulk d + 1
  | .slice elems spare => uptoBulkAll elems + uptoBulkAll spare + 1
  | .agg parts => uptoBulkAll parts + 1
  | .iface _ d => uptoBulk d + 1
  | .map entries => uptoBulkEntries entries + 1
  | .held _ => 1
def uptoBulkAll {H : Type} : List (DataW H) → Nat
  | [] => 0
  | d :: r => uptoBulk d + uptoBulkAll r
def uptoBulkEntries {H : Type} : List (Lit × DataW H) → Nat
  | [] => 0
  | x :: r => uptoBulkEntry x + uptoBulkEntries r
def uptoBulkEntry {H : Type} : Lit × DataW H → Nat
  | (.string bytes, d) => bytes.length + uptoBulk d + 1
  | (_, d) => uptoBulk d + 1
 end
def uptoSmall : (H : Type) → List (DataW H) → Bool := fun _ ds => decide (uptoBulkAll ds ≤ 1048576)
def OpenSpec.upto (s : _root_.Go.ChangeSpec) : _root_.Go.OpenSpec := { _root_.Go.OpenSpec.ofChange s with cond := some uptoSmall }

/-- 'pelotonlaw08.ModelParts', WHERE WHAT IT READS IS OF BULK AT MOST 1048576: true; the input reads as it did. -/
def modelPartsUptoRow : OpenClaim := { program := "ytdipfegofpfhaaa", sum := "5a3697823e674977910f3aee62ecf9ba8f2f02b4155d53b2b9852448caae2231", func := "peloton/pelotonlaw08.ModelParts", spec := "modelParts", inPlace := ["maps.clone"], unfollowed := true, recurses := true, plainKeys := false, apart := false, narrowed := true }
def ModelPartsUptoSaid : Prop := modelPartsUptoRow.holds Try.pinned (OpenSpec.upto modelPartsSpec)

/-- 'pelotonlaw09.GenChecks', WHERE WHAT IT READS IS OF BULK AT MOST 1048576: true; the input reads as it did. -/
def genChecksUptoRow : OpenClaim := { program := "ytdipfegofpfhaaa", sum := "5a3697823e674977910f3aee62ecf9ba8f2f02b4155d53b2b9852448caae2231", func := "peloton/pelotonlaw09.GenChecks", spec := "genChecks", unfollowed := true, recurses := true, plainKeys := false, apart := false, narrowed := true }
def GenChecksUptoSaid : Prop := genChecksUptoRow.holds Try.pinned (OpenSpec.upto genChecksSpec)

/-- 'pelotonlaw09.GenEach', WHERE WHAT IT READS IS OF BULK AT MOST 1048576: true; the input reads as it did. -/
def genEachUptoRow : OpenClaim := { program := "ytdipfegofpfhaaa", sum := "5a3697823e674977910f3aee62ecf9ba8f2f02b4155d53b2b9852448caae2231", func := "peloton/pelotonlaw09.GenEach", spec := "genEach", unfollowed := true, recurses := true, plainKeys := false, apart := false, narrowed := true }
def GenEachUptoSaid : Prop := genEachUptoRow.holds Try.pinned (OpenSpec.upto genEachSpec)

/-- 'pelotonlaw09.GenGoesOn', WHERE WHAT IT READS IS OF BULK AT MOST 1048576: true; the input reads as it did. -/
def genGoesOnUptoRow : OpenClaim := { program := "ytdipfegofpfhaaa", sum := "5a3697823e674977910f3aee62ecf9ba8f2f02b4155d53b2b9852448caae2231", func := "peloton/pelotonlaw09.GenGoesOn", spec := "genGoesOn", unfollowed := true, recurses := true, plainKeys := false, apart := false, narrowed := true }
def GenGoesOnUptoSaid : Prop := genGoesOnUptoRow.holds Try.pinned (OpenSpec.upto genGoesOnSpec)

end Rows
end Go.Proofs.Ytdipfegofpfhaaa
