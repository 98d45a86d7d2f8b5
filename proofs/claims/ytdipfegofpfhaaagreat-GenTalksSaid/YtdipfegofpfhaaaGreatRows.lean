/-
  No cell of these rows narrows 'for every input' (looked for: loops, veiled, ifaces, maps, wideKeys, modest, calm, conditions, laid).
  DERIVED. THE GIVEN ROWS OF THIS SEAT. 5 by the template 'for every input the law returns true; each argument reads behind the call as it read before'; 0 by the template 'total and deterministic' (their statements: YtdipfegofpfhaaaGreatTotals.lean).
  GIVEN WITH THE SEED: the statements are not yours to turn. If you find one false, say at which input.
  Laid BY PROGRAM, IN A SANDBOX (cutbox-rows.mjs): the forced cells as the released guide's own fill.sh prints them over the translation 60c41b991148a88c… (all of the seat's roots in one cut). By AI agents, Wed Nov 11 2026. No macro, syntax, notation, axiom, sorry.
-/
import Derived.Test.YtdipfegofpfhaaaGreatChecked
import GoSem.Claim
import GoSem.ClaimJoined
import GoSem.ClaimMapViews
import Derived.JoinedTies
import Derived.KernelRfl
namespace Go.Proofs.YtdipfegofpfhaaaGreat
/- THE CELL 'sum', in the pinned program and in every row, IS THE sha256 OF THE DUMP (.gsa) THAT YtdipfegofpfhaaaGreatProg.lean LOADS. Nothing in Lean hashes anything: it is a label: what it is worth is what the hold of that sum in a sandbox is worth. -/
noncomputable def Tryz.pinned : Pinned := { name := "ytdipfegofpfhaaagreat", sum := "60c41b991148a88c1ff6662122ce124b56965f150e46e8579891f08218d9ace4", checked := Tryz.checked }
namespace Rows
def none {H : Type} : Left H := { results := [], args := [] }

/-- 'pelotonlaw08.ModelRefuses': WHATEVER THE INPUT: true; the input reads as it did. -/
def modelRefusesSpec : ChangeSpec := { name := "modelRefuses", fn := fun _ => fun
  | [d1, d2, d3] => { results := [.lit (.bool true)], args := [d1, d2, d3] }
  | _ => none }
def modelRefusesRow : OpenClaim := { program := "ytdipfegofpfhaaagreat", sum := "60c41b991148a88c1ff6662122ce124b56965f150e46e8579891f08218d9ace4", func := "peloton/pelotonlaw08.ModelRefuses", spec := "modelRefuses", unfollowed := true, recurses := true, plainKeys := false, apart := false }
def ModelRefusesSaid : Prop := modelRefusesRow.holds Tryz.pinned (OpenSpec.ofChange modelRefusesSpec)

/-- ITS FALSE NEIGHBOUR: 'it returns false'. Refute it at one input. -/
def modelRefusesWrong : ChangeSpec := { name := "modelRefuses", fn := fun _ => fun
  | [d1, d2, d3] => { results := [.lit (.bool false)], args := [d1, d2, d3] }
  | _ => none }
def ModelRefusesWrongFalsely : Prop := modelRefusesRow.holds Tryz.pinned (OpenSpec.ofChange modelRefusesWrong)

/-- 'pelotonlaw08.ModelFeeds': WHATEVER THE INPUT: true; the input reads as it did. -/
def modelFeedsSpec : ChangeSpec := { name := "modelFeeds", fn := fun _ => fun
  | [d1, d2] => { results := [.lit (.bool true)], args := [d1, d2] }
  | _ => none }
def modelFeedsRow : OpenClaim := { program := "ytdipfegofpfhaaagreat", sum := "60c41b991148a88c1ff6662122ce124b56965f150e46e8579891f08218d9ace4", func := "peloton/pelotonlaw08.ModelFeeds", spec := "modelFeeds", unfollowed := true, recurses := true, plainKeys := false, apart := false }
def ModelFeedsSaid : Prop := modelFeedsRow.holds Tryz.pinned (OpenSpec.ofChange modelFeedsSpec)

/-- ITS FALSE NEIGHBOUR: 'it returns false'. Refute it at one input. -/
def modelFeedsWrong : ChangeSpec := { name := "modelFeeds", fn := fun _ => fun
  | [d1, d2] => { results := [.lit (.bool false)], args := [d1, d2] }
  | _ => none }
def ModelFeedsWrongFalsely : Prop := modelFeedsRow.holds Tryz.pinned (OpenSpec.ofChange modelFeedsWrong)

/-- 'pelotonlaw08.ModelPast': WHATEVER THE INPUT: true; the input reads as it did. -/
def modelPastSpec : ChangeSpec := { name := "modelPast", fn := fun _ => fun
  | [d1, d2, d3] => { results := [.lit (.bool true)], args := [d1, d2, d3] }
  | _ => none }
def modelPastRow : OpenClaim := { program := "ytdipfegofpfhaaagreat", sum := "60c41b991148a88c1ff6662122ce124b56965f150e46e8579891f08218d9ace4", func := "peloton/pelotonlaw08.ModelPast", spec := "modelPast", inPlace := ["maps.clone"], unfollowed := true, recurses := true, plainKeys := false, apart := false }
def ModelPastSaid : Prop := modelPastRow.holds Tryz.pinned (OpenSpec.ofChange modelPastSpec)

/-- ITS FALSE NEIGHBOUR: 'it returns false'. Refute it at one input. -/
def modelPastWrong : ChangeSpec := { name := "modelPast", fn := fun _ => fun
  | [d1, d2, d3] => { results := [.lit (.bool false)], args := [d1, d2, d3] }
  | _ => none }
def ModelPastWrongFalsely : Prop := modelPastRow.holds Tryz.pinned (OpenSpec.ofChange modelPastWrong)

/-- 'pelotonlaw09.GenSays': WHATEVER THE INPUT: true; the input reads as it did. -/
def genSaysSpec : ChangeSpec := { name := "genSays", fn := fun _ => fun
  | [d1, d2, d3] => { results := [.lit (.bool true)], args := [d1, d2, d3] }
  | _ => none }
def genSaysRow : OpenClaim := { program := "ytdipfegofpfhaaagreat", sum := "60c41b991148a88c1ff6662122ce124b56965f150e46e8579891f08218d9ace4", func := "peloton/pelotonlaw09.GenSays", spec := "genSays", unfollowed := true, recurses := true, plainKeys := false, apart := false }
def GenSaysSaid : Prop := genSaysRow.holds Tryz.pinned (OpenSpec.ofChange genSaysSpec)

/-- ITS FALSE NEIGHBOUR: 'it returns false'. Refute it at one input. -/
def genSaysWrong : ChangeSpec := { name := "genSays", fn := fun _ => fun
  | [d1, d2, d3] => { results := [.lit (.bool false)], args := [d1, d2, d3] }
  | _ => none }
def GenSaysWrongFalsely : Prop := genSaysRow.holds Tryz.pinned (OpenSpec.ofChange genSaysWrong)

/-- 'pelotonlaw09.GenTalks': WHATEVER THE INPUT: true; the input reads as it did. -/
def genTalksSpec : ChangeSpec := { name := "genTalks", fn := fun _ => fun
  | [d1, d2, d3] => { results := [.lit (.bool true)], args := [d1, d2, d3] }
  | _ => none }
def genTalksRow : OpenClaim := { program := "ytdipfegofpfhaaagreat", sum := "60c41b991148a88c1ff6662122ce124b56965f150e46e8579891f08218d9ace4", func := "peloton/pelotonlaw09.GenTalks", spec := "genTalks", unfollowed := true, recurses := true, plainKeys := false, apart := false }
def GenTalksSaid : Prop := genTalksRow.holds Tryz.pinned (OpenSpec.ofChange genTalksSpec)

/-- ITS FALSE NEIGHBOUR: 'it returns false'. Refute it at one input. -/
def genTalksWrong : ChangeSpec := { name := "genTalks", fn := fun _ => fun
  | [d1, d2, d3] => { results := [.lit (.bool false)], args := [d1, d2, d3] }
  | _ => none }
def GenTalksWrongFalsely : Prop := genTalksRow.holds Tryz.pinned (OpenSpec.ofChange genTalksWrong)

/- THE SECOND FORM. 'bulk': how many values and letters a reading holds, each counted each time it is reached (what is shared counts as often as it is met; a slice's spare places count too). A statement '..UptoSaid' is the law's where the arguments, and the package variables that the reading takes, are together of bulk at most 1048576: NARROWER than '..Said'. Prove '..Said' where nothing that the law and all that it calls make is longer than what came in: it says more and counts as full. Else prove '..UptoSaid'. A law counts once. -/
mutual
def uptoBulk {H : Type} : DataW H → Nat
  | .lit (.string bytes) => bytes.length + 1
  | .lit _ => 1
  | .nil => 1
  | .ptr d => uptoBulk d + 1
  | .slice elems spare => uptoBulkAll elems + uptoBulkAll spare + 1
  | .agg parts => uptoBulkAll parts + 1
  | .iface _ d => uptoBulk d + 1
  | .map entries => uptoBulkEntries entries + 1
  | .held _ => 1
def uptoBulkAll {H : Type} : List (DataW H) → Nat
  | [] => 0
  | d :: r => uptoBulk d + uptoBulkAll r
def uptoBulkEntries {H : Type} : List (Lit × DataW H) → Nat
  | [] => 0
  | x :: r => uptoBulkEntry x + uptoBulkEntries r
def uptoBulkEntry {H : Type} : Lit × DataW H → Nat
  | (.string bytes, d) => bytes.length + uptoBulk d + 1
  | (_, d) => uptoBulk d + 1
 end
def uptoSmall : (H : Type) → List (DataW H) → Bool := fun _ ds => decide (uptoBulkAll ds ≤ 1048576)
def OpenSpec.upto (s : _root_.Go.ChangeSpec) : _root_.Go.OpenSpec := { _root_.Go.OpenSpec.ofChange s with cond := some uptoSmall }

/-- 'pelotonlaw08.ModelRefuses', WHERE WHAT IT READS IS OF BULK AT MOST 1048576: true; the input reads as it did. -/
def modelRefusesUptoRow : OpenClaim := { program := "ytdipfegofpfhaaagreat", sum := "60c41b991148a88c1ff6662122ce124b56965f150e46e8579891f08218d9ace4", func := "peloton/pelotonlaw08.ModelRefuses", spec := "modelRefuses", unfollowed := true, recurses := true, plainKeys := false, apart := false, narrowed := true }
def ModelRefusesUptoSaid : Prop := modelRefusesUptoRow.holds Tryz.pinned (OpenSpec.upto modelRefusesSpec)

/-- 'pelotonlaw08.ModelFeeds', WHERE WHAT IT READS IS OF BULK AT MOST 1048576: true; the input reads as it did. -/
def modelFeedsUptoRow : OpenClaim := { program := "ytdipfegofpfhaaagreat", sum := "60c41b991148a88c1ff6662122ce124b56965f150e46e8579891f08218d9ace4", func := "peloton/pelotonlaw08.ModelFeeds", spec := "modelFeeds", unfollowed := true, recurses := true, plainKeys := false, apart := false, narrowed := true }
def ModelFeedsUptoSaid : Prop := modelFeedsUptoRow.holds Tryz.pinned (OpenSpec.upto modelFeedsSpec)

/-- 'pelotonlaw08.ModelPast', WHERE WHAT IT READS IS OF BULK AT MOST 1048576: true; the input reads as it did. -/
def modelPastUptoRow : OpenClaim := { program := "ytdipfegofpfhaaagreat", sum := "60c41b991148a88c1ff6662122ce124b56965f150e46e8579891f08218d9ace4", func := "peloton/pelotonlaw08.ModelPast", spec := "modelPast", inPlace := ["maps.clone"], unfollowed := true, recurses := true, plainKeys := false, apart := false, narrowed := true }
def ModelPastUptoSaid : Prop := modelPastUptoRow.holds Tryz.pinned (OpenSpec.upto modelPastSpec)

/-- 'pelotonlaw09.GenSays', WHERE WHAT IT READS IS OF BULK AT MOST 1048576: true; the input reads as it did. -/
def genSaysUptoRow : OpenClaim := { program := "ytdipfegofpfhaaagreat", sum := "60c41b991148a88c1ff6662122ce124b56965f150e46e8579891f08218d9ace4", func := "peloton/pelotonlaw09.GenSays", spec := "genSays", unfollowed := true, recurses := true, plainKeys := false, apart := false, narrowed := true }
def GenSaysUptoSaid : Prop := genSaysUptoRow.holds Tryz.pinned (OpenSpec.upto genSaysSpec)

/-- 'pelotonlaw09.GenTalks', WHERE WHAT IT READS IS OF BULK AT MOST 1048576: true; the input reads as it did. -/
def genTalksUptoRow : OpenClaim := { program := "ytdipfegofpfhaaagreat", sum := "60c41b991148a88c1ff6662122ce124b56965f150e46e8579891f08218d9ace4", func := "peloton/pelotonlaw09.GenTalks", spec := "genTalks", unfollowed := true, recurses := true, plainKeys := false, apart := false, narrowed := true }
def GenTalksUptoSaid : Prop := genTalksUptoRow.holds Tryz.pinned (OpenSpec.upto genTalksSpec)

end Rows
end Go.Proofs.YtdipfegofpfhaaaGreat
