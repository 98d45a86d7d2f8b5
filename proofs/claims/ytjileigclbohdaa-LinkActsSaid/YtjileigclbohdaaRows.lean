/-
  No cell of these rows narrows 'for every input' (looked for: loops, veiled, ifaces, maps, wideKeys, modest, calm, conditions, laid).
  DERIVED. THE GIVEN ROWS OF THIS SEAT. 4 by the template 'for every input the law returns true; each argument reads behind the call as it read before'; 0 by the template 'total and deterministic' (their statements: YtjileigclbohdaaTotals.lean).
  GIVEN WITH THE SEED: the statements are not yours to turn. If you find one false, say at which input.
  Laid BY PROGRAM, IN A SANDBOX (cutbox-rows.mjs): the forced cells as the released guide's own fill.sh prints them over the translation f8070633eda513a2… (all of the seat's roots in one cut). By AI agents, Wed Nov 11 2026. No macro, syntax, notation, axiom, sorry.
-/
import Derived.Test.YtjileigclbohdaaChecked
import GoSem.Claim
import GoSem.ClaimJoined
import GoSem.ClaimMapViews
import Derived.JoinedTies
import Derived.KernelRfl
namespace Go.Proofs.Ytjileigclbohdaa
/- THE CELL 'sum', in the pinned program and in every row, IS THE sha256 OF THE DUMP (.gsa) THAT YtjileigclbohdaaProg.lean LOADS. Nothing in Lean hashes anything: it is a label: what it is worth is what the hold of that sum in a sandbox is worth. -/
noncomputable def Try.pinned : Pinned := { name := "ytjileigclbohdaa", sum := "f8070633eda513a2f36427dd6106f492cd9b6153b965c2e8bfb809bac238f41c", checked := Try.checked }
namespace Rows
def none {H : Type} : Left H := { results := [], args := [] }

/-- 'pelotonlaw16.LinkCarries': WHATEVER THE INPUT: true; the input reads as it did. -/
def linkCarriesSpec : ChangeSpec := { name := "linkCarries", fn := fun _ => fun
  | [d1, d2] => { results := [.lit (.bool true)], args := [d1, d2] }
  | _ => none }
def linkCarriesRow : OpenClaim := { program := "ytjileigclbohdaa", sum := "f8070633eda513a2f36427dd6106f492cd9b6153b965c2e8bfb809bac238f41c", func := "peloton/pelotonlaw16.LinkCarries", spec := "linkCarries", unfollowed := true, recurses := true, apart := false }
def LinkCarriesSaid : Prop := linkCarriesRow.holds Try.pinned (OpenSpec.ofChange linkCarriesSpec)

/-- ITS FALSE NEIGHBOUR: 'it returns false'. Refute it at one input. -/
def linkCarriesWrong : ChangeSpec := { name := "linkCarries", fn := fun _ => fun
  | [d1, d2] => { results := [.lit (.bool false)], args := [d1, d2] }
  | _ => none }
def LinkCarriesWrongFalsely : Prop := linkCarriesRow.holds Try.pinned (OpenSpec.ofChange linkCarriesWrong)

/-- 'pelotonlaw16.LinkWindow': WHATEVER THE INPUT: true; the input reads as it did. -/
def linkWindowSpec : ChangeSpec := { name := "linkWindow", fn := fun _ => fun
  | [d1, d2, d3] => { results := [.lit (.bool true)], args := [d1, d2, d3] }
  | _ => none }
def linkWindowRow : OpenClaim := { program := "ytjileigclbohdaa", sum := "f8070633eda513a2f36427dd6106f492cd9b6153b965c2e8bfb809bac238f41c", func := "peloton/pelotonlaw16.LinkWindow", spec := "linkWindow", unfollowed := true, recurses := true, apart := false }
def LinkWindowSaid : Prop := linkWindowRow.holds Try.pinned (OpenSpec.ofChange linkWindowSpec)

/-- ITS FALSE NEIGHBOUR: 'it returns false'. Refute it at one input. -/
def linkWindowWrong : ChangeSpec := { name := "linkWindow", fn := fun _ => fun
  | [d1, d2, d3] => { results := [.lit (.bool false)], args := [d1, d2, d3] }
  | _ => none }
def LinkWindowWrongFalsely : Prop := linkWindowRow.holds Try.pinned (OpenSpec.ofChange linkWindowWrong)

/-- 'pelotonlaw16.LinkActs': WHATEVER THE INPUT: true; the input reads as it did. -/
def linkActsSpec : ChangeSpec := { name := "linkActs", fn := fun _ => fun
  | [d1, d2] => { results := [.lit (.bool true)], args := [d1, d2] }
  | _ => none }
def linkActsRow : OpenClaim := { program := "ytjileigclbohdaa", sum := "f8070633eda513a2f36427dd6106f492cd9b6153b965c2e8bfb809bac238f41c", func := "peloton/pelotonlaw16.LinkActs", spec := "linkActs", unfollowed := true, recurses := true, apart := false }
def LinkActsSaid : Prop := linkActsRow.holds Try.pinned (OpenSpec.ofChange linkActsSpec)

/-- ITS FALSE NEIGHBOUR: 'it returns false'. Refute it at one input. -/
def linkActsWrong : ChangeSpec := { name := "linkActs", fn := fun _ => fun
  | [d1, d2] => { results := [.lit (.bool false)], args := [d1, d2] }
  | _ => none }
def LinkActsWrongFalsely : Prop := linkActsRow.holds Try.pinned (OpenSpec.ofChange linkActsWrong)

/-- 'pelotonlaw16.LinkEpochs': WHATEVER THE INPUT: true; the input reads as it did. -/
def linkEpochsSpec : ChangeSpec := { name := "linkEpochs", fn := fun _ => fun
  | [d1, d2, d3] => { results := [.lit (.bool true)], args := [d1, d2, d3] }
  | _ => none }
def linkEpochsRow : OpenClaim := { program := "ytjileigclbohdaa", sum := "f8070633eda513a2f36427dd6106f492cd9b6153b965c2e8bfb809bac238f41c", func := "peloton/pelotonlaw16.LinkEpochs", spec := "linkEpochs", unfollowed := true, recurses := true, apart := false }
def LinkEpochsSaid : Prop := linkEpochsRow.holds Try.pinned (OpenSpec.ofChange linkEpochsSpec)

/-- ITS FALSE NEIGHBOUR: 'it returns false'. Refute it at one input. -/
def linkEpochsWrong : ChangeSpec := { name := "linkEpochs", fn := fun _ => fun
  | [d1, d2, d3] => { results := [.lit (.bool false)], args := [d1, d2, d3] }
  | _ => none }
def LinkEpochsWrongFalsely : Prop := linkEpochsRow.holds Try.pinned (OpenSpec.ofChange linkEpochsWrong)

/- THE SECOND FORM. 'bulk': how many values and letters a reading holds, each counted each time it is reached (what is shared counts as often as it is met; a slice's spare places count too). A statement '..UptoSaid' is the law's where the arguments, and the package variables that the reading takes, are together of bulk at most 1048576: NARROWER than '..Said'. Prove '..Said' where nothing that the law and all that it calls make is longer than what came in: it says more and counts as full. Else prove '..UptoSaid'. A law counts once. -/
mutual
def uptoBulk {H : Type} : DataW H → Nat
  | .lit (.string bytes) => bytes.length + 1
  | .lit _ => 1
  | .nil => 1
  | .ptr d => uptoBulk d + 1
  | .slice elems spare => uptoBulkAll elems + uptoBulkAll spare + 1
  | .agg parts => uptoBulkAll parts + 1
  | .iface _ d => uptoBulk d + 1
  | .map entries => uptoBulkEntries entries + 1
  | .held _ => 1
def uptoBulkAll {H : Type} : List (DataW H) → Nat
  | [] => 0
  | d :: r => uptoBulk d + uptoBulkAll r
def uptoBulkEntries {H : Type} : List (Lit × DataW H) → Nat
  | [] => 0
  | x :: r => uptoBulkEntry x + uptoBulkEntries r
def uptoBulkEntry {H : Type} : Lit × DataW H → Nat
  | (.string bytes, d) => bytes.length + uptoBulk d + 1
  | (_, d) => uptoBulk d + 1
 end
def uptoSmall : (H : Type) → List (DataW H) → Bool := fun _ ds => decide (uptoBulkAll ds ≤ 1048576)
def OpenSpec.upto (s : _root_.Go.ChangeSpec) : _root_.Go.OpenSpec := { _root_.Go.OpenSpec.ofChange s with cond := some uptoSmall }

/-- 'pelotonlaw16.LinkCarries', WHERE WHAT IT READS IS OF BULK AT MOST 1048576: true; the input reads as it did. -/
def linkCarriesUptoRow : OpenClaim := { program := "ytjileigclbohdaa", sum := "f8070633eda513a2f36427dd6106f492cd9b6153b965c2e8bfb809bac238f41c", func := "peloton/pelotonlaw16.LinkCarries", spec := "linkCarries", unfollowed := true, recurses := true, apart := false, narrowed := true }
def LinkCarriesUptoSaid : Prop := linkCarriesUptoRow.holds Try.pinned (OpenSpec.upto linkCarriesSpec)

/-- 'pelotonlaw16.LinkWindow', WHERE WHAT IT READS IS OF BULK AT MOST 1048576: true; the input reads as it did. -/
def linkWindowUptoRow : OpenClaim := { program := "ytjileigclbohdaa", sum := "f8070633eda513a2f36427dd6106f492cd9b6153b965c2e8bfb809bac238f41c", func := "peloton/pelotonlaw16.LinkWindow", spec := "linkWindow", unfollowed := true, recurses := true, apart := false, narrowed := true }
def LinkWindowUptoSaid : Prop := linkWindowUptoRow.holds Try.pinned (OpenSpec.upto linkWindowSpec)

/-- 'pelotonlaw16.LinkActs', WHERE WHAT IT READS IS OF BULK AT MOST 1048576: true; the input reads as it did. -/
def linkActsUptoRow : OpenClaim := { program := "ytjileigclbohdaa", sum := "f8070633eda513a2f36427dd6106f492cd9b6153b965c2e8bfb809bac238f41c", func := "peloton/pelotonlaw16.LinkActs", spec := "linkActs", unfollowed := true, recurses := true, apart := false, narrowed := true }
def LinkActsUptoSaid : Prop := linkActsUptoRow.holds Try.pinned (OpenSpec.upto linkActsSpec)

/-- 'pelotonlaw16.LinkEpochs', WHERE WHAT IT READS IS OF BULK AT MOST 1048576: true; the input reads as it did. -/
def linkEpochsUptoRow : OpenClaim := { program := "ytjileigclbohdaa", sum := "f8070633eda513a2f36427dd6106f492cd9b6153b965c2e8bfb809bac238f41c", func := "peloton/pelotonlaw16.LinkEpochs", spec := "linkEpochs", unfollowed := true, recurses := true, apart := false, narrowed := true }
def LinkEpochsUptoSaid : Prop := linkEpochsUptoRow.holds Try.pinned (OpenSpec.upto linkEpochsSpec)

end Rows
end Go.Proofs.Ytjileigclbohdaa
