/-
  No cell of these rows narrows 'for every input' (looked for: loops, veiled, ifaces, maps, wideKeys, modest, calm, conditions, laid).
  DERIVED. THE GIVEN ROWS OF THIS SEAT. 3 by the template 'for every input the law returns true; each argument reads behind the call as it read before'; 0 by the template 'total and deterministic' (their statements: YtmphbmocpiolfaaTotals.lean).
  GIVEN WITH THE SEED: the statements are not yours to turn. If you find one false, say at which input.
  Laid BY PROGRAM, IN A SANDBOX (cutbox-rows.mjs): the forced cells as the released guide's own fill.sh prints them over the translation 15cebc83ca05d440… (all of the seat's roots in one cut). By AI agents, Wed Nov 11 2026. No macro, syntax, notation, axiom, sorry.
-/
import Derived.Test.YtmphbmocpiolfaaChecked
import GoSem.Claim
import GoSem.ClaimJoined
import GoSem.ClaimMapViews
import Derived.JoinedTies
import Derived.KernelRfl
namespace Go.Proofs.Ytmphbmocpiolfaa
/- THE CELL 'sum', in the pinned program and in every row, IS THE sha256 OF THE DUMP (.gsa) THAT YtmphbmocpiolfaaProg.lean LOADS. Nothing in Lean hashes anything: it is a label: what it is worth is what the hold of that sum in a sandbox is worth. -/
noncomputable def Try.pinned : Pinned := { name := "ytmphbmocpiolfaa", sum := "15cebc83ca05d44024271b370ece388dadaacc31e4d453b8737ccc17f489b1db", checked := Try.checked }
namespace Rows
def none {H : Type} : Left H := { results := [], args := [] }

/-- 'pelotonlaw24.BeatActs': WHATEVER THE INPUT: true; the input reads as it did. -/
def beatActsSpec : ChangeSpec := { name := "beatActs", fn := fun _ => fun
  | [d1, d2, d3] => { results := [.lit (.bool true)], args := [d1, d2, d3] }
  | _ => none }
def beatActsRow : OpenClaim := { program := "ytmphbmocpiolfaa", sum := "15cebc83ca05d44024271b370ece388dadaacc31e4d453b8737ccc17f489b1db", func := "peloton/pelotonlaw24.BeatActs", spec := "beatActs", unfollowed := true, recurses := true, apart := false }
def BeatActsSaid : Prop := beatActsRow.holds Try.pinned (OpenSpec.ofChange beatActsSpec)

/-- ITS FALSE NEIGHBOUR: 'it returns false'. Refute it at one input. -/
def beatActsWrong : ChangeSpec := { name := "beatActs", fn := fun _ => fun
  | [d1, d2, d3] => { results := [.lit (.bool false)], args := [d1, d2, d3] }
  | _ => none }
def BeatActsWrongFalsely : Prop := beatActsRow.holds Try.pinned (OpenSpec.ofChange beatActsWrong)

/-- 'pelotonlaw24.BeatStays': WHATEVER THE INPUT: true; the input reads as it did. -/
def beatStaysSpec : ChangeSpec := { name := "beatStays", fn := fun _ => fun
  | [d1, d2, d3] => { results := [.lit (.bool true)], args := [d1, d2, d3] }
  | _ => none }
def beatStaysRow : OpenClaim := { program := "ytmphbmocpiolfaa", sum := "15cebc83ca05d44024271b370ece388dadaacc31e4d453b8737ccc17f489b1db", func := "peloton/pelotonlaw24.BeatStays", spec := "beatStays", unfollowed := true, recurses := true, apart := false }
def BeatStaysSaid : Prop := beatStaysRow.holds Try.pinned (OpenSpec.ofChange beatStaysSpec)

/-- ITS FALSE NEIGHBOUR: 'it returns false'. Refute it at one input. -/
def beatStaysWrong : ChangeSpec := { name := "beatStays", fn := fun _ => fun
  | [d1, d2, d3] => { results := [.lit (.bool false)], args := [d1, d2, d3] }
  | _ => none }
def BeatStaysWrongFalsely : Prop := beatStaysRow.holds Try.pinned (OpenSpec.ofChange beatStaysWrong)

/-- 'pelotonlaw24.BeatRises': WHATEVER THE INPUT: true; the input reads as it did. -/
def beatRisesSpec : ChangeSpec := { name := "beatRises", fn := fun _ => fun
  | [d1, d2] => { results := [.lit (.bool true)], args := [d1, d2] }
  | _ => none }
def beatRisesRow : OpenClaim := { program := "ytmphbmocpiolfaa", sum := "15cebc83ca05d44024271b370ece388dadaacc31e4d453b8737ccc17f489b1db", func := "peloton/pelotonlaw24.BeatRises", spec := "beatRises", unfollowed := true, recurses := true, apart := false }
def BeatRisesSaid : Prop := beatRisesRow.holds Try.pinned (OpenSpec.ofChange beatRisesSpec)

/-- ITS FALSE NEIGHBOUR: 'it returns false'. Refute it at one input. -/
def beatRisesWrong : ChangeSpec := { name := "beatRises", fn := fun _ => fun
  | [d1, d2] => { results := [.lit (.bool false)], args := [d1, d2] }
  | _ => none }
def BeatRisesWrongFalsely : Prop := beatRisesRow.holds Try.pinned (OpenSpec.ofChange beatRisesWrong)

/- THE SECOND FORM. 'bulk': how many values and letters a reading holds, each counted each time it is reached (what is shared counts as often as it is met; a slice's spare places count too). A statement '..UptoSaid' is the law's where the arguments, and the package variables that the reading takes, are together of bulk at most 1048576: NARROWER than '..Said'. Prove '..Said' where nothing that the law and all that it calls make is longer than what came in: it says more and counts as full. Else prove '..UptoSaid'. A law counts once. -/
mutual
def uptoBulk {H : Type} : DataW H → Nat
  | .lit (.string bytes) => bytes.length + 1
  | .lit _ => 1
  | .nil => 1
  | .ptr d => uptoBulk d + 1
  | .slice elems spare => uptoBulkAll elems + uptoBulkAll spare + 1
  | .agg parts => uptoBulkAll parts + 1
  | .iface _ d => uptoBulk d + 1
  | .map entries => uptoBulkEntries entries + 1
  | .held _ => 1
def uptoBulkAll {H : Type} : List (DataW H) → Nat
  | [] => 0
  | d :: r => uptoBulk d + uptoBulkAll r
def uptoBulkEntries {H : Type} : List (Lit × DataW H) → Nat
  | [] => 0
  | x :: r => uptoBulkEntry x + uptoBulkEntries r
def uptoBulkEntry {H : Type} : Lit × DataW H → Nat
  | (.string bytes, d) => bytes.length + uptoBulk d + 1
  | (_, d) => uptoBulk d + 1
 end
def uptoSmall : (H : Type) → List (DataW H) → Bool := fun _ ds => decide (uptoBulkAll ds ≤ 1048576)
def OpenSpec.upto (s : _root_.Go.ChangeSpec) : _root_.Go.OpenSpec := { _root_.Go.OpenSpec.ofChange s with cond := some uptoSmall }

/-- 'pelotonlaw24.BeatActs', WHERE WHAT IT READS IS OF BULK AT MOST 1048576: true; the input reads as it did. -/
def beatActsUptoRow : OpenClaim := { program := "ytmphbmocpiolfaa", sum := "15cebc83ca05d44024271b370ece388dadaacc31e4d453b8737ccc17f489b1db", func := "peloton/pelotonlaw24.BeatActs", spec := "beatActs", unfollowed := true, recurses := true, apart := false, narrowed := true }
def BeatActsUptoSaid : Prop := beatActsUptoRow.holds Try.pinned (OpenSpec.upto beatActsSpec)

/-- 'pelotonlaw24.BeatStays', WHERE WHAT IT READS IS OF BULK AT MOST 1048576: true; the input reads as it did. -/
def beatStaysUptoRow : OpenClaim := { program := "ytmphbmocpiolfaa", sum := "15cebc83ca05d44024271b370ece388dadaacc31e4d453b8737ccc17f489b1db", func := "peloton/pelotonlaw24.BeatStays", spec := "beatStays", unfollowed := true, recurses := true, apart := false, narrowed := true }
def BeatStaysUptoSaid : Prop := beatStaysUptoRow.holds Try.pinned (OpenSpec.upto beatStaysSpec)

/-- 'pelotonlaw24.BeatRises', WHERE WHAT IT READS IS OF BULK AT MOST 1048576: true; the input reads as it did. -/
def beatRisesUptoRow : OpenClaim := { program := "ytmphbmocpiolfaa", sum := "15cebc83ca05d44024271b370ece388dadaacc31e4d453b8737ccc17f489b1db", func := "peloton/pelotonlaw24.BeatRises", spec := "beatRises", unfollowed := true, recurses := true, apart := false, narrowed := true }
def BeatRisesUptoSaid : Prop := beatRisesUptoRow.holds Try.pinned (OpenSpec.upto beatRisesSpec)

end Rows
end Go.Proofs.Ytmphbmocpiolfaa
