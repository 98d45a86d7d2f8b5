/-
  No cell of these rows narrows 'for every input' (looked for: loops, veiled, ifaces, maps, wideKeys, modest, calm, conditions, laid).
  DERIVED. THE GIVEN ROWS OF THIS SEAT. 3 by the template 'for every input the law returns true; each argument reads behind the call as it read before'; 0 by the template 'total and deterministic' (their statements: YtglllajndogcmaaTotals.lean).
  GIVEN WITH THE SEED: the statements are not yours to turn. If you find one false, say at which input.
  Laid BY PROGRAM, IN A SANDBOX (cutbox-rows.mjs): the forced cells as the released guide's own fill.sh prints them over the translation 2973980a6e65ef68… (all of the seat's roots in one cut). By AI agents, Wed Nov 11 2026. No macro, syntax, notation, axiom, sorry.
-/
import Derived.Test.YtglllajndogcmaaChecked
import GoSem.Claim
import GoSem.ClaimJoined
import GoSem.ClaimMapViews
import Derived.JoinedTies
import Derived.KernelRfl
namespace Go.Proofs.Ytglllajndogcmaa
/- THE CELL 'sum', in the pinned program and in every row, IS THE sha256 OF THE DUMP (.gsa) THAT YtglllajndogcmaaProg.lean LOADS. Nothing in Lean hashes anything: it is a label: what it is worth is what the hold of that sum in a sandbox is worth. -/
noncomputable def Try.pinned : Pinned := { name := "ytglllajndogcmaa", sum := "2973980a6e65ef681bb2c21a2b40c3765b3b2acb954fb1d3dc356d89d54502eb", checked := Try.checked }
namespace Rows
def none {H : Type} : Left H := { results := [], args := [] }

/-- 'pelotonlaw21.AdmitFair': WHATEVER THE INPUT: true; the input reads as it did. -/
def admitFairSpec : ChangeSpec := { name := "admitFair", fn := fun _ => fun
  | [d1, d2, d3] => { results := [.lit (.bool true)], args := [d1, d2, d3] }
  | _ => none }
def admitFairRow : OpenClaim := { program := "ytglllajndogcmaa", sum := "2973980a6e65ef681bb2c21a2b40c3765b3b2acb954fb1d3dc356d89d54502eb", func := "peloton/pelotonlaw21.AdmitFair", spec := "admitFair", unfollowed := true, recurses := true, apart := false }
def AdmitFairSaid : Prop := admitFairRow.holds Try.pinned (OpenSpec.ofChange admitFairSpec)

/-- ITS FALSE NEIGHBOUR: 'it returns false'. Refute it at one input. -/
def admitFairWrong : ChangeSpec := { name := "admitFair", fn := fun _ => fun
  | [d1, d2, d3] => { results := [.lit (.bool false)], args := [d1, d2, d3] }
  | _ => none }
def AdmitFairWrongFalsely : Prop := admitFairRow.holds Try.pinned (OpenSpec.ofChange admitFairWrong)

/-- 'pelotonlaw21.AdmitActs': WHATEVER THE INPUT: true; the input reads as it did. -/
def admitActsSpec : ChangeSpec := { name := "admitActs", fn := fun _ => fun
  | [d1, d2, d3] => { results := [.lit (.bool true)], args := [d1, d2, d3] }
  | _ => none }
def admitActsRow : OpenClaim := { program := "ytglllajndogcmaa", sum := "2973980a6e65ef681bb2c21a2b40c3765b3b2acb954fb1d3dc356d89d54502eb", func := "peloton/pelotonlaw21.AdmitActs", spec := "admitActs", unfollowed := true, recurses := true, apart := false }
def AdmitActsSaid : Prop := admitActsRow.holds Try.pinned (OpenSpec.ofChange admitActsSpec)

/-- ITS FALSE NEIGHBOUR: 'it returns false'. Refute it at one input. -/
def admitActsWrong : ChangeSpec := { name := "admitActs", fn := fun _ => fun
  | [d1, d2, d3] => { results := [.lit (.bool false)], args := [d1, d2, d3] }
  | _ => none }
def AdmitActsWrongFalsely : Prop := admitActsRow.holds Try.pinned (OpenSpec.ofChange admitActsWrong)

/-- 'pelotonlaw21.AdmitKeeps': WHATEVER THE INPUT: true; the input reads as it did. -/
def admitKeepsSpec : ChangeSpec := { name := "admitKeeps", fn := fun _ => fun
  | [d1, d2] => { results := [.lit (.bool true)], args := [d1, d2] }
  | _ => none }
def admitKeepsRow : OpenClaim := { program := "ytglllajndogcmaa", sum := "2973980a6e65ef681bb2c21a2b40c3765b3b2acb954fb1d3dc356d89d54502eb", func := "peloton/pelotonlaw21.AdmitKeeps", spec := "admitKeeps", unfollowed := true, recurses := true, apart := false }
def AdmitKeepsSaid : Prop := admitKeepsRow.holds Try.pinned (OpenSpec.ofChange admitKeepsSpec)

/-- ITS FALSE NEIGHBOUR: 'it returns false'. Refute it at one input. -/
def admitKeepsWrong : ChangeSpec := { name := "admitKeeps", fn := fun _ => fun
  | [d1, d2] => { results := [.lit (.bool false)], args := [d1, d2] }
  | _ => none }
def AdmitKeepsWrongFalsely : Prop := admitKeepsRow.holds Try.pinned (OpenSpec.ofChange admitKeepsWrong)

/- THE SECOND FORM. 'bulk': how many values and letters a reading holds, each counted each time it is reached (what is shared counts as often as it is met; a slice's spare places count too). A statement '..UptoSaid' is the law's where the arguments, and the package variables that the reading takes, are together of bulk at most 1048576: NARROWER than '..Said'. Prove '..Said' where nothing that the law and all that it calls make is longer than what came in: it says more and counts as full. Else prove '..UptoSaid'. A law counts once. -/
mutual
def uptoBulk {H : Type} : DataW H → Nat
  | .lit (.string bytes) => bytes.length + 1
  | .lit _ => 1
  | .nil => 1
  | .ptr d => uptoBulk d + 1
  | .slice elems spare => uptoBulkAll elems + uptoBulkAll spare + 1
  | .agg parts => uptoBulkAll parts + 1
  | .iface _ d => uptoBulk d + 1
  | .map entries => uptoBulkEntries entries + 1
  | .held _ => 1
def uptoBulkAll {H : Type} : List (DataW H) → Nat
  | [] => 0
  | d :: r => uptoBulk d + uptoBulkAll r
def uptoBulkEntries {H : Type} : List (Lit × DataW H) → Nat
  | [] => 0
  | x :: r => uptoBulkEntry x + uptoBulkEntries r
def uptoBulkEntry {H : Type} : Lit × DataW H → Nat
  | (.string bytes, d) => bytes.length + uptoBulk d + 1
  | (_, d) => uptoBulk d + 1
 end
def uptoSmall : (H : Type) → List (DataW H) → Bool := fun _ ds => decide (uptoBulkAll ds ≤ 1048576)
def OpenSpec.upto (s : _root_.Go.ChangeSpec) : _root_.Go.OpenSpec := { _root_.Go.OpenSpec.ofChange s with cond := some uptoSmall }

/-- 'pelotonlaw21.AdmitFair', WHERE WHAT IT READS IS OF BULK AT MOST 1048576: true; the input reads as it did. -/
def admitFairUptoRow : OpenClaim := { program := "ytglllajndogcmaa", sum := "2973980a6e65ef681bb2c21a2b40c3765b3b2acb954fb1d3dc356d89d54502eb", func := "peloton/pelotonlaw21.AdmitFair", spec := "admitFair", unfollowed := true, recurses := true, apart := false, narrowed := true }
def AdmitFairUptoSaid : Prop := admitFairUptoRow.holds Try.pinned (OpenSpec.upto admitFairSpec)

/-- 'pelotonlaw21.AdmitActs', WHERE WHAT IT READS IS OF BULK AT MOST 1048576: true; the input reads as it did. -/
def admitActsUptoRow : OpenClaim := { program := "ytglllajndogcmaa", sum := "2973980a6e65ef681bb2c21a2b40c3765b3b2acb954fb1d3dc356d89d54502eb", func := "peloton/pelotonlaw21.AdmitActs", spec := "admitActs", unfollowed := true, recurses := true, apart := false, narrowed := true }
def AdmitActsUptoSaid : Prop := admitActsUptoRow.holds Try.pinned (OpenSpec.upto admitActsSpec)

/-- 'pelotonlaw21.AdmitKeeps', WHERE WHAT IT READS IS OF BULK AT MOST 1048576: true; the input reads as it did. -/
def admitKeepsUptoRow : OpenClaim := { program := "ytglllajndogcmaa", sum := "2973980a6e65ef681bb2c21a2b40c3765b3b2acb954fb1d3dc356d89d54502eb", func := "peloton/pelotonlaw21.AdmitKeeps", spec := "admitKeeps", unfollowed := true, recurses := true, apart := false, narrowed := true }
def AdmitKeepsUptoSaid : Prop := admitKeepsUptoRow.holds Try.pinned (OpenSpec.upto admitKeepsSpec)

end Rows
end Go.Proofs.Ytglllajndogcmaa
