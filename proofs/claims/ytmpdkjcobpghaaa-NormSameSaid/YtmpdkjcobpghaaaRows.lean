/-
  No cell of these rows narrows 'for every input' (looked for: loops, veiled, ifaces, maps, wideKeys, modest, calm, conditions, laid).
  DERIVED. THE GIVEN ROWS OF THIS SEAT. 7 by the template 'for every input the law returns true; each argument reads behind the call as it read before'; 0 by the template 'total and deterministic' (their statements: YtmpdkjcobpghaaaTotals.lean).
  GIVEN WITH THE SEED: the statements are not yours to turn. If you find one false, say at which input.
  Laid BY PROGRAM, IN A SANDBOX (cutbox-rows.mjs): the forced cells as the released guide's own fill.sh prints them over the translation 3ee9e015f2640b35… (all of the seat's roots in one cut). By AI agents, Wed Nov 11 2026. No macro, syntax, notation, axiom, sorry.
-/
import Derived.Test.YtmpdkjcobpghaaaChecked
import GoSem.Claim
import GoSem.ClaimJoined
import GoSem.ClaimMapViews
import Derived.JoinedTies
import Derived.KernelRfl
namespace Go.Proofs.Ytmpdkjcobpghaaa
/- THE CELL 'sum', in the pinned program and in every row, IS THE sha256 OF THE DUMP (.gsa) THAT YtmpdkjcobpghaaaProg.lean LOADS. Nothing in Lean hashes anything: it is a label: what it is worth is what the hold of that sum in a sandbox is worth. -/
noncomputable def Try.pinned : Pinned := { name := "ytmpdkjcobpghaaa", sum := "3ee9e015f2640b35f37e3d11f4e8316c7cf2e997d9c14d63498b93e291f5a418", checked := Try.checked }
namespace Rows
def none {H : Type} : Left H := { results := [], args := [] }

/-- 'pelotonlaw05.NormNorms': WHATEVER THE INPUT: true; the input reads as it did. -/
def normNormsSpec : ChangeSpec := { name := "normNorms", fn := fun _ => fun
  | [d1, d2] => { results := [.lit (.bool true)], args := [d1, d2] }
  | _ => none }
def normNormsRow : OpenClaim := { program := "ytmpdkjcobpghaaa", sum := "3ee9e015f2640b35f37e3d11f4e8316c7cf2e997d9c14d63498b93e291f5a418", func := "peloton/pelotonlaw05.NormNorms", spec := "normNorms", apart := false }
def NormNormsSaid : Prop := normNormsRow.holds Try.pinned (OpenSpec.ofChange normNormsSpec)

/-- ITS FALSE NEIGHBOUR: 'it returns false'. Refute it at one input. -/
def normNormsWrong : ChangeSpec := { name := "normNorms", fn := fun _ => fun
  | [d1, d2] => { results := [.lit (.bool false)], args := [d1, d2] }
  | _ => none }
def NormNormsWrongFalsely : Prop := normNormsRow.holds Try.pinned (OpenSpec.ofChange normNormsWrong)

/-- 'pelotonlaw05.NormWeights': WHATEVER THE INPUT: true; the input reads as it did. -/
def normWeightsSpec : ChangeSpec := { name := "normWeights", fn := fun _ => fun
  | [d1, d2, d3] => { results := [.lit (.bool true)], args := [d1, d2, d3] }
  | _ => none }
def normWeightsRow : OpenClaim := { program := "ytmpdkjcobpghaaa", sum := "3ee9e015f2640b35f37e3d11f4e8316c7cf2e997d9c14d63498b93e291f5a418", func := "peloton/pelotonlaw05.NormWeights", spec := "normWeights", apart := false }
def NormWeightsSaid : Prop := normWeightsRow.holds Try.pinned (OpenSpec.ofChange normWeightsSpec)

/-- ITS FALSE NEIGHBOUR: 'it returns false'. Refute it at one input. -/
def normWeightsWrong : ChangeSpec := { name := "normWeights", fn := fun _ => fun
  | [d1, d2, d3] => { results := [.lit (.bool false)], args := [d1, d2, d3] }
  | _ => none }
def NormWeightsWrongFalsely : Prop := normWeightsRow.holds Try.pinned (OpenSpec.ofChange normWeightsWrong)

/-- 'pelotonlaw05.NormOrders': WHATEVER THE INPUT: true; the input reads as it did. -/
def normOrdersSpec : ChangeSpec := { name := "normOrders", fn := fun _ => fun
  | [d1, d2, d3] => { results := [.lit (.bool true)], args := [d1, d2, d3] }
  | _ => none }
def normOrdersRow : OpenClaim := { program := "ytmpdkjcobpghaaa", sum := "3ee9e015f2640b35f37e3d11f4e8316c7cf2e997d9c14d63498b93e291f5a418", func := "peloton/pelotonlaw05.NormOrders", spec := "normOrders", apart := false }
def NormOrdersSaid : Prop := normOrdersRow.holds Try.pinned (OpenSpec.ofChange normOrdersSpec)

/-- ITS FALSE NEIGHBOUR: 'it returns false'. Refute it at one input. -/
def normOrdersWrong : ChangeSpec := { name := "normOrders", fn := fun _ => fun
  | [d1, d2, d3] => { results := [.lit (.bool false)], args := [d1, d2, d3] }
  | _ => none }
def NormOrdersWrongFalsely : Prop := normOrdersRow.holds Try.pinned (OpenSpec.ofChange normOrdersWrong)

/-- 'pelotonlaw05.NormShifts': WHATEVER THE INPUT: true; the input reads as it did. -/
def normShiftsSpec : ChangeSpec := { name := "normShifts", fn := fun _ => fun
  | [d1, d2, d3] => { results := [.lit (.bool true)], args := [d1, d2, d3] }
  | _ => none }
def normShiftsRow : OpenClaim := { program := "ytmpdkjcobpghaaa", sum := "3ee9e015f2640b35f37e3d11f4e8316c7cf2e997d9c14d63498b93e291f5a418", func := "peloton/pelotonlaw05.NormShifts", spec := "normShifts", apart := false }
def NormShiftsSaid : Prop := normShiftsRow.holds Try.pinned (OpenSpec.ofChange normShiftsSpec)

/-- ITS FALSE NEIGHBOUR: 'it returns false'. Refute it at one input. -/
def normShiftsWrong : ChangeSpec := { name := "normShifts", fn := fun _ => fun
  | [d1, d2, d3] => { results := [.lit (.bool false)], args := [d1, d2, d3] }
  | _ => none }
def NormShiftsWrongFalsely : Prop := normShiftsRow.holds Try.pinned (OpenSpec.ofChange normShiftsWrong)

/-- 'pelotonlaw05.NormSigns': WHATEVER THE INPUT: true; the input reads as it did. -/
def normSignsSpec : ChangeSpec := { name := "normSigns", fn := fun _ => fun
  | [d1, d2] => { results := [.lit (.bool true)], args := [d1, d2] }
  | _ => none }
def normSignsRow : OpenClaim := { program := "ytmpdkjcobpghaaa", sum := "3ee9e015f2640b35f37e3d11f4e8316c7cf2e997d9c14d63498b93e291f5a418", func := "peloton/pelotonlaw05.NormSigns", spec := "normSigns", apart := false }
def NormSignsSaid : Prop := normSignsRow.holds Try.pinned (OpenSpec.ofChange normSignsSpec)

/-- ITS FALSE NEIGHBOUR: 'it returns false'. Refute it at one input. -/
def normSignsWrong : ChangeSpec := { name := "normSigns", fn := fun _ => fun
  | [d1, d2] => { results := [.lit (.bool false)], args := [d1, d2] }
  | _ => none }
def NormSignsWrongFalsely : Prop := normSignsRow.holds Try.pinned (OpenSpec.ofChange normSignsWrong)

/-- 'pelotonlaw05.NormMixes': WHATEVER THE INPUT: true; the input reads as it did. -/
def normMixesSpec : ChangeSpec := { name := "normMixes", fn := fun _ => fun
  | [d1, d2, d3] => { results := [.lit (.bool true)], args := [d1, d2, d3] }
  | _ => none }
def normMixesRow : OpenClaim := { program := "ytmpdkjcobpghaaa", sum := "3ee9e015f2640b35f37e3d11f4e8316c7cf2e997d9c14d63498b93e291f5a418", func := "peloton/pelotonlaw05.NormMixes", spec := "normMixes", apart := false }
def NormMixesSaid : Prop := normMixesRow.holds Try.pinned (OpenSpec.ofChange normMixesSpec)

/-- ITS FALSE NEIGHBOUR: 'it returns false'. Refute it at one input. -/
def normMixesWrong : ChangeSpec := { name := "normMixes", fn := fun _ => fun
  | [d1, d2, d3] => { results := [.lit (.bool false)], args := [d1, d2, d3] }
  | _ => none }
def NormMixesWrongFalsely : Prop := normMixesRow.holds Try.pinned (OpenSpec.ofChange normMixesWrong)

/-- 'pelotonlaw05.NormSame': WHATEVER THE INPUT: true; the input reads as it did. -/
def normSameSpec : ChangeSpec := { name := "normSame", fn := fun _ => fun
  | [d1, d2, d3] => { results := [.lit (.bool true)], args := [d1, d2, d3] }
  | _ => none }
def normSameRow : OpenClaim := { program := "ytmpdkjcobpghaaa", sum := "3ee9e015f2640b35f37e3d11f4e8316c7cf2e997d9c14d63498b93e291f5a418", func := "peloton/pelotonlaw05.NormSame", spec := "normSame", apart := false }
def NormSameSaid : Prop := normSameRow.holds Try.pinned (OpenSpec.ofChange normSameSpec)

/-- ITS FALSE NEIGHBOUR: 'it returns false'. Refute it at one input. -/
def normSameWrong : ChangeSpec := { name := "normSame", fn := fun _ => fun
  | [d1, d2, d3] => { results := [.lit (.bool false)], args := [d1, d2, d3] }
  | _ => none }
def NormSameWrongFalsely : Prop := normSameRow.holds Try.pinned (OpenSpec.ofChange normSameWrong)

/- THE SECOND FORM. 'bulk': how many values and letters a reading holds, each counted each time it is reached (what is shared counts as often as it is met; a slice's spare places count too). A statement '..UptoSaid' is the law's where the arguments, and the package variables that the reading takes, are together of bulk at most 1048576: NARROWER than '..Said'. Prove '..Said' where nothing that the law and all that it calls make is longer than what came in: it says more and counts as full. Else prove '..UptoSaid'. A law counts once. -/
mutual
def uptoBulk {H : Type} : DataW H → Nat
  | .lit (.string bytes) => bytes.length + 1
  | .lit _ => 1
  | .nil => 1
  | .ptr d => uptoBulk d + 1
  | .slice elems spare => uptoBulkAll elems + uptoBulkAll spare + 1
  | .agg parts => uptoBulkAll parts + 1
  | .iface _ d => uptoBulk d + 1
  | .map entries => uptoBulkEntries entries + 1
  | .held _ => 1
def uptoBulkAll {H : Type} : List (DataW H) → Nat
  | [] => 0
  | d :: r => uptoBulk d + uptoBulkAll r
def uptoBulkEntries {H : Type} : List (Lit × DataW H) → Nat
  | [] => 0
  | x :: r => uptoBulkEntry x + uptoBulkEntries r
def uptoBulkEntry {H : Type} : Lit × DataW H → Nat
  | (.string bytes, d) => bytes.length + uptoBulk d + 1
  | (_, d) => uptoBulk d + 1
 end
def uptoSmall : (H : Type) → List (DataW H) → Bool := fun _ ds => decide (uptoBulkAll ds ≤ 1048576)
def OpenSpec.upto (s : _root_.Go.ChangeSpec) : _root_.Go.OpenSpec := { _root_.Go.OpenSpec.ofChange s with cond := some uptoSmall }

/-- 'pelotonlaw05.NormNorms', WHERE WHAT IT READS IS OF BULK AT MOST 1048576: true; the input reads as it did. -/
def normNormsUptoRow : OpenClaim := { program := "ytmpdkjcobpghaaa", sum := "3ee9e015f2640b35f37e3d11f4e8316c7cf2e997d9c14d63498b93e291f5a418", func := "peloton/pelotonlaw05.NormNorms", spec := "normNorms", apart := false, narrowed := true }
def NormNormsUptoSaid : Prop := normNormsUptoRow.holds Try.pinned (OpenSpec.upto normNormsSpec)

/-- 'pelotonlaw05.NormWeights', WHERE WHAT IT READS IS OF BULK AT MOST 1048576: true; the input reads as it did. -/
def normWeightsUptoRow : OpenClaim := { program := "ytmpdkjcobpghaaa", sum := "3ee9e015f2640b35f37e3d11f4e8316c7cf2e997d9c14d63498b93e291f5a418", func := "peloton/pelotonlaw05.NormWeights", spec := "normWeights", apart := false, narrowed := true }
def NormWeightsUptoSaid : Prop := normWeightsUptoRow.holds Try.pinned (OpenSpec.upto normWeightsSpec)

/-- 'pelotonlaw05.NormOrders', WHERE WHAT IT READS IS OF BULK AT MOST 1048576: true; the input reads as it did. -/
def normOrdersUptoRow : OpenClaim := { program := "ytmpdkjcobpghaaa", sum := "3ee9e015f2640b35f37e3d11f4e8316c7cf2e997d9c14d63498b93e291f5a418", func := "peloton/pelotonlaw05.NormOrders", spec := "normOrders", apart := false, narrowed := true }
def NormOrdersUptoSaid : Prop := normOrdersUptoRow.holds Try.pinned (OpenSpec.upto normOrdersSpec)

/-- 'pelotonlaw05.NormShifts', WHERE WHAT IT READS IS OF BULK AT MOST 1048576: true; the input reads as it did. -/
def normShiftsUptoRow : OpenClaim := { program := "ytmpdkjcobpghaaa", sum := "3ee9e015f2640b35f37e3d11f4e8316c7cf2e997d9c14d63498b93e291f5a418", func := "peloton/pelotonlaw05.NormShifts", spec := "normShifts", apart := false, narrowed := true }
def NormShiftsUptoSaid : Prop := normShiftsUptoRow.holds Try.pinned (OpenSpec.upto normShiftsSpec)

/-- 'pelotonlaw05.NormSigns', WHERE WHAT IT READS IS OF BULK AT MOST 1048576: true; the input reads as it did. -/
def normSignsUptoRow : OpenClaim := { program := "ytmpdkjcobpghaaa", sum := "3ee9e015f2640b35f37e3d11f4e8316c7cf2e997d9c14d63498b93e291f5a418", func := "peloton/pelotonlaw05.NormSigns", spec := "normSigns", apart := false, narrowed := true }
def NormSignsUptoSaid : Prop := normSignsUptoRow.holds Try.pinned (OpenSpec.upto normSignsSpec)

/-- 'pelotonlaw05.NormMixes', WHERE WHAT IT READS IS OF BULK AT MOST 1048576: true; the input reads as it did. -/
def normMixesUptoRow : OpenClaim := { program := "ytmpdkjcobpghaaa", sum := "3ee9e015f2640b35f37e3d11f4e8316c7cf2e997d9c14d63498b93e291f5a418", func := "peloton/pelotonlaw05.NormMixes", spec := "normMixes", apart := false, narrowed := true }
def NormMixesUptoSaid : Prop := normMixesUptoRow.holds Try.pinned (OpenSpec.upto normMixesSpec)

/-- 'pelotonlaw05.NormSame', WHERE WHAT IT READS IS OF BULK AT MOST 1048576: true; the input reads as it did. -/
def normSameUptoRow : OpenClaim := { program := "ytmpdkjcobpghaaa", sum := "3ee9e015f2640b35f37e3d11f4e8316c7cf2e997d9c14d63498b93e291f5a418", func := "peloton/pelotonlaw05.NormSame", spec := "normSame", apart := false, narrowed := true }
def NormSameUptoSaid : Prop := normSameUptoRow.holds Try.pinned (OpenSpec.upto normSameSpec)

end Rows
end Go.Proofs.Ytmpdkjcobpghaaa
