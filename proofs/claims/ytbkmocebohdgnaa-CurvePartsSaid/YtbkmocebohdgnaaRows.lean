/-
  No cell of these rows narrows 'for every input' (looked for: loops, veiled, ifaces, maps, wideKeys, modest, calm, conditions, laid).
  DERIVED. THE GIVEN ROWS OF THIS SEAT. 7 by the template 'for every input the law returns true; each argument reads behind the call as it read before'; 0 by the template 'total and deterministic' (their statements: YtbkmocebohdgnaaTotals.lean).
  GIVEN WITH THE SEED: the statements are not yours to turn. If you find one false, say at which input.
  Laid BY PROGRAM, IN A SANDBOX (cutbox-rows.mjs): the forced cells as the released guide's own fill.sh prints them over the translation a08b11b8ab03fd72… (all of the seat's roots in one cut). By AI agents, Wed Nov 11 2026. No macro, syntax, notation, axiom, sorry.
-/
import Derived.Test.YtbkmocebohdgnaaChecked
import GoSem.Claim
import GoSem.ClaimJoined
import GoSem.ClaimMapViews
import Derived.JoinedTies
import Derived.KernelRfl
namespace Go.Proofs.Ytbkmocebohdgnaa
/- THE CELL 'sum', in the pinned program and in every row, IS THE sha256 OF THE DUMP (.gsa) THAT YtbkmocebohdgnaaProg.lean LOADS. Nothing in Lean hashes anything: it is a label: what it is worth is what the hold of that sum in a sandbox is worth. -/
noncomputable def Try.pinned : Pinned := { name := "ytbkmocebohdgnaa", sum := "a08b11b8ab03fd72743a6ffa6ad00569dd0902c40d901d3e144ae7893e3247ca", checked := Try.checked }
namespace Rows
def none {H : Type} : Left H := { results := [], args := [] }

/-- 'pelotonlaw02.CurveRoots': WHATEVER THE INPUT: true; the input reads as it did. -/
def curveRootsSpec : ChangeSpec := { name := "curveRoots", fn := fun _ => fun
  | [d] => { results := [.lit (.bool true)], args := [d] }
  | _ => none }
def curveRootsRow : OpenClaim := { program := "ytbkmocebohdgnaa", sum := "a08b11b8ab03fd72743a6ffa6ad00569dd0902c40d901d3e144ae7893e3247ca", func := "peloton/pelotonlaw02.CurveRoots", spec := "curveRoots", apart := false }
def CurveRootsSaid : Prop := curveRootsRow.holds Try.pinned (OpenSpec.ofChange curveRootsSpec)

/-- ITS FALSE NEIGHBOUR: 'it returns false'. Refute it at one input. -/
def curveRootsWrong : ChangeSpec := { name := "curveRoots", fn := fun _ => fun
  | [d] => { results := [.lit (.bool false)], args := [d] }
  | _ => none }
def CurveRootsWrongFalsely : Prop := curveRootsRow.holds Try.pinned (OpenSpec.ofChange curveRootsWrong)

/-- 'pelotonlaw02.CurveShares': WHATEVER THE INPUT: true; the input reads as it did. -/
def curveSharesSpec : ChangeSpec := { name := "curveShares", fn := fun _ => fun
  | [d1, d2] => { results := [.lit (.bool true)], args := [d1, d2] }
  | _ => none }
def curveSharesRow : OpenClaim := { program := "ytbkmocebohdgnaa", sum := "a08b11b8ab03fd72743a6ffa6ad00569dd0902c40d901d3e144ae7893e3247ca", func := "peloton/pelotonlaw02.CurveShares", spec := "curveShares", apart := false }
def CurveSharesSaid : Prop := curveSharesRow.holds Try.pinned (OpenSpec.ofChange curveSharesSpec)

/-- ITS FALSE NEIGHBOUR: 'it returns false'. Refute it at one input. -/
def curveSharesWrong : ChangeSpec := { name := "curveShares", fn := fun _ => fun
  | [d1, d2] => { results := [.lit (.bool false)], args := [d1, d2] }
  | _ => none }
def CurveSharesWrongFalsely : Prop := curveSharesRow.holds Try.pinned (OpenSpec.ofChange curveSharesWrong)

/-- 'pelotonlaw02.CurveFalls': WHATEVER THE INPUT: true; the input reads as it did. -/
def curveFallsSpec : ChangeSpec := { name := "curveFalls", fn := fun _ => fun
  | [d1, d2, d3] => { results := [.lit (.bool true)], args := [d1, d2, d3] }
  | _ => none }
def curveFallsRow : OpenClaim := { program := "ytbkmocebohdgnaa", sum := "a08b11b8ab03fd72743a6ffa6ad00569dd0902c40d901d3e144ae7893e3247ca", func := "peloton/pelotonlaw02.CurveFalls", spec := "curveFalls", apart := false }
def CurveFallsSaid : Prop := curveFallsRow.holds Try.pinned (OpenSpec.ofChange curveFallsSpec)

/-- ITS FALSE NEIGHBOUR: 'it returns false'. Refute it at one input. -/
def curveFallsWrong : ChangeSpec := { name := "curveFalls", fn := fun _ => fun
  | [d1, d2, d3] => { results := [.lit (.bool false)], args := [d1, d2, d3] }
  | _ => none }
def CurveFallsWrongFalsely : Prop := curveFallsRow.holds Try.pinned (OpenSpec.ofChange curveFallsWrong)

/-- 'pelotonlaw02.CurveWhole': WHATEVER THE INPUT: true; the input reads as it did. -/
def curveWholeSpec : ChangeSpec := { name := "curveWhole", fn := fun _ => fun
  | [d1, d2] => { results := [.lit (.bool true)], args := [d1, d2] }
  | _ => none }
def curveWholeRow : OpenClaim := { program := "ytbkmocebohdgnaa", sum := "a08b11b8ab03fd72743a6ffa6ad00569dd0902c40d901d3e144ae7893e3247ca", func := "peloton/pelotonlaw02.CurveWhole", spec := "curveWhole", apart := false }
def CurveWholeSaid : Prop := curveWholeRow.holds Try.pinned (OpenSpec.ofChange curveWholeSpec)

/-- ITS FALSE NEIGHBOUR: 'it returns false'. Refute it at one input. -/
def curveWholeWrong : ChangeSpec := { name := "curveWhole", fn := fun _ => fun
  | [d1, d2] => { results := [.lit (.bool false)], args := [d1, d2] }
  | _ => none }
def CurveWholeWrongFalsely : Prop := curveWholeRow.holds Try.pinned (OpenSpec.ofChange curveWholeWrong)

/-- 'pelotonlaw02.CurveNear': WHATEVER THE INPUT: true; the input reads as it did. -/
def curveNearSpec : ChangeSpec := { name := "curveNear", fn := fun _ => fun
  | [d] => { results := [.lit (.bool true)], args := [d] }
  | _ => none }
def curveNearRow : OpenClaim := { program := "ytbkmocebohdgnaa", sum := "a08b11b8ab03fd72743a6ffa6ad00569dd0902c40d901d3e144ae7893e3247ca", func := "peloton/pelotonlaw02.CurveNear", spec := "curveNear", apart := false }
def CurveNearSaid : Prop := curveNearRow.holds Try.pinned (OpenSpec.ofChange curveNearSpec)

/-- ITS FALSE NEIGHBOUR: 'it returns false'. Refute it at one input. -/
def curveNearWrong : ChangeSpec := { name := "curveNear", fn := fun _ => fun
  | [d] => { results := [.lit (.bool false)], args := [d] }
  | _ => none }
def CurveNearWrongFalsely : Prop := curveNearRow.holds Try.pinned (OpenSpec.ofChange curveNearWrong)

/-- 'pelotonlaw02.CurveParts': WHATEVER THE INPUT: true; the input reads as it did. -/
def curvePartsSpec : ChangeSpec := { name := "curveParts", fn := fun _ => fun
  | [d1, d2, d3] => { results := [.lit (.bool true)], args := [d1, d2, d3] }
  | _ => none }
def curvePartsRow : OpenClaim := { program := "ytbkmocebohdgnaa", sum := "a08b11b8ab03fd72743a6ffa6ad00569dd0902c40d901d3e144ae7893e3247ca", func := "peloton/pelotonlaw02.CurveParts", spec := "curveParts", apart := false }
def CurvePartsSaid : Prop := curvePartsRow.holds Try.pinned (OpenSpec.ofChange curvePartsSpec)

/-- ITS FALSE NEIGHBOUR: 'it returns false'. Refute it at one input. -/
def curvePartsWrong : ChangeSpec := { name := "curveParts", fn := fun _ => fun
  | [d1, d2, d3] => { results := [.lit (.bool false)], args := [d1, d2, d3] }
  | _ => none }
def CurvePartsWrongFalsely : Prop := curvePartsRow.holds Try.pinned (OpenSpec.ofChange curvePartsWrong)

/-- 'pelotonlaw02.CurveExps': WHATEVER THE INPUT: true; the input reads as it did. -/
def curveExpsSpec : ChangeSpec := { name := "curveExps", fn := fun _ => fun
  | [d] => { results := [.lit (.bool true)], args := [d] }
  | _ => none }
def curveExpsRow : OpenClaim := { program := "ytbkmocebohdgnaa", sum := "a08b11b8ab03fd72743a6ffa6ad00569dd0902c40d901d3e144ae7893e3247ca", func := "peloton/pelotonlaw02.CurveExps", spec := "curveExps", apart := false }
def CurveExpsSaid : Prop := curveExpsRow.holds Try.pinned (OpenSpec.ofChange curveExpsSpec)

/-- ITS FALSE NEIGHBOUR: 'it returns false'. Refute it at one input. -/
def curveExpsWrong : ChangeSpec := { name := "curveExps", fn := fun _ => fun
  | [d] => { results := [.lit (.bool false)], args := [d] }
  | _ => none }
def CurveExpsWrongFalsely : Prop := curveExpsRow.holds Try.pinned (OpenSpec.ofChange curveExpsWrong)

/- THE SECOND FORM. 'bulk': how many values and letters a reading holds, each counted each time it is reached (what is shared counts as often as it is met; a slice's spare places count too). A statement '..UptoSaid' is the law's where the arguments, and the package variables that the reading takes, are together of bulk at most 1048576: NARROWER than '..Said'. Prove '..Said' where nothing that the law and all that it calls make is longer than what came in: it says more and counts as full. Else prove '..UptoSaid'. A law counts once. -/
mutual
def uptoBulk {H : Type} : DataW H → Nat
  | .lit (.string bytes) => bytes.length + 1
  | .lit _ => 1
  | .nil => 1
  | .ptr d => uptoBulk d + 1
  | .slice elems spare => uptoBulkAll elems + uptoBulkAll spare + 1
  | .agg parts => uptoBulkAll parts + 1
  | .iface _ d => uptoBulk d + 1
  | .map entries => uptoBulkEntries entries + 1
  | .held _ => 1
def uptoBulkAll {H : Type} : List (DataW H) → Nat
  | [] => 0
  | d :: r => uptoBulk d + uptoBulkAll r
def uptoBulkEntries {H : Type} : List (Lit × DataW H) → Nat
  | [] => 0
  | x :: r => uptoBulkEntry x + uptoBulkEntries r
def uptoBulkEntry {H : Type} : Lit × DataW H → Nat
  | (.string bytes, d) => bytes.length + uptoBulk d + 1
  | (_, d) => uptoBulk d + 1
 end
def uptoSmall : (H : Type) → List (DataW H) → Bool := fun _ ds => decide (uptoBulkAll ds ≤ 1048576)
def OpenSpec.upto (s : _root_.Go.ChangeSpec) : _root_.Go.OpenSpec := { _root_.Go.OpenSpec.ofChange s with cond := some uptoSmall }

/-- 'pelotonlaw02.CurveRoots', WHERE WHAT IT READS IS OF BULK AT MOST 1048576: true; the input reads as it did. -/
def curveRootsUptoRow : OpenClaim := { program := "ytbkmocebohdgnaa", sum := "a08b11b8ab03fd72743a6ffa6ad00569dd0902c40d901d3e144ae7893e3247ca", func := "peloton/pelotonlaw02.CurveRoots", spec := "curveRoots", apart := false, narrowed := true }
def CurveRootsUptoSaid : Prop := curveRootsUptoRow.holds Try.pinned (OpenSpec.upto curveRootsSpec)

/-- 'pelotonlaw02.CurveShares', WHERE WHAT IT READS IS OF BULK AT MOST 1048576: true; the input reads as it did. -/
def curveSharesUptoRow : OpenClaim := { program := "ytbkmocebohdgnaa", sum := "a08b11b8ab03fd72743a6ffa6ad00569dd0902c40d901d3e144ae7893e3247ca", func := "peloton/pelotonlaw02.CurveShares", spec := "curveShares", apart := false, narrowed := true }
def CurveSharesUptoSaid : Prop := curveSharesUptoRow.holds Try.pinned (OpenSpec.upto curveSharesSpec)

/-- 'pelotonlaw02.CurveFalls', WHERE WHAT IT READS IS OF BULK AT MOST 1048576: true; the input reads as it did. -/
def curveFallsUptoRow : OpenClaim := { program := "ytbkmocebohdgnaa", sum := "a08b11b8ab03fd72743a6ffa6ad00569dd0902c40d901d3e144ae7893e3247ca", func := "peloton/pelotonlaw02.CurveFalls", spec := "curveFalls", apart := false, narrowed := true }
def CurveFallsUptoSaid : Prop := curveFallsUptoRow.holds Try.pinned (OpenSpec.upto curveFallsSpec)

/-- 'pelotonlaw02.CurveWhole', WHERE WHAT IT READS IS OF BULK AT MOST 1048576: true; the input reads as it did. -/
def curveWholeUptoRow : OpenClaim := { program := "ytbkmocebohdgnaa", sum := "a08b11b8ab03fd72743a6ffa6ad00569dd0902c40d901d3e144ae7893e3247ca", func := "peloton/pelotonlaw02.CurveWhole", spec := "curveWhole", apart := false, narrowed := true }
def CurveWholeUptoSaid : Prop := curveWholeUptoRow.holds Try.pinned (OpenSpec.upto curveWholeSpec)

/-- 'pelotonlaw02.CurveNear', WHERE WHAT IT READS IS OF BULK AT MOST 1048576: true; the input reads as it did. -/
def curveNearUptoRow : OpenClaim := { program := "ytbkmocebohdgnaa", sum := "a08b11b8ab03fd72743a6ffa6ad00569dd0902c40d901d3e144ae7893e3247ca", func := "peloton/pelotonlaw02.CurveNear", spec := "curveNear", apart := false, narrowed := true }
def CurveNearUptoSaid : Prop := curveNearUptoRow.holds Try.pinned (OpenSpec.upto curveNearSpec)

/-- 'pelotonlaw02.CurveParts', WHERE WHAT IT READS IS OF BULK AT MOST 1048576: true; the input reads as it did. -/
def curvePartsUptoRow : OpenClaim := { program := "ytbkmocebohdgnaa", sum := "a08b11b8ab03fd72743a6ffa6ad00569dd0902c40d901d3e144ae7893e3247ca", func := "peloton/pelotonlaw02.CurveParts", spec := "curveParts", apart := false, narrowed := true }
def CurvePartsUptoSaid : Prop := curvePartsUptoRow.holds Try.pinned (OpenSpec.upto curvePartsSpec)

/-- 'pelotonlaw02.CurveExps', WHERE WHAT IT READS IS OF BULK AT MOST 1048576: true; the input reads as it did. -/
def curveExpsUptoRow : OpenClaim := { program := "ytbkmocebohdgnaa", sum := "a08b11b8ab03fd72743a6ffa6ad00569dd0902c40d901d3e144ae7893e3247ca", func := "peloton/pelotonlaw02.CurveExps", spec := "curveExps", apart := false, narrowed := true }
def CurveExpsUptoSaid : Prop := curveExpsUptoRow.holds Try.pinned (OpenSpec.upto curveExpsSpec)

end Rows
end Go.Proofs.Ytbkmocebohdgnaa
